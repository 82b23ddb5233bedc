/- (*frame.Frame).Add. Condition: fewer than 100 datagrams are there. (*frame.Frame).fresh, with its goto. No condition. -/
import Derived.Test.YtpkpfebhdgbgbaaGreatDoorTKQFw3
import Derived.Test.YtpkpfebhdgbgbaaGreatDoorTQHDgCheck
import Derived.Deep.DeepCutAuto
import Derived.Test.YtpkpfebhdgbgbaaGreatDoorJumps
import Derived.Lib.LazyBuf
namespace Go.Proofs.YtpkpfebhdgbgbaaGreatDoor.K
open Go.RowKit

open Dg (checkE check_any)
set_option linter.unusedSimpArgs false
set_option linter.unusedVariables false

theorem Tryz.infoPl : (Tryz.prog.info? 158).map (fun i => (i.zero, i.size, i.bytes)) = some (some (.agg #[.int .i64 0, .string ByteArray.empty]), 2, 24) := by kernel_rfl
theorem plZ_cells : (Value.agg #[.int .i64 0, .string ByteArray.empty]).cells.size = 2 := by kernel_rfl
def plV (n : Nat) (d : ByteArray) : List Value := [.int .i64 (n : Int), .string d]
theorem one_pl (n : Nat) (d : ByteArray) : ∀ u ∈ plV n d, u.oneCell' = true := by
  intro u hu
  simp only [plV, List.mem_cons, List.not_mem_nil, or_false] at hu
  rcases hu with rfl | rfl <;> rfl
theorem own_pl (w : World) (n : Nat) (d : ByteArray) : (w.alloc (.cells #[.int .i64 (n : Int), .string d] 158)).ownsRow 0 158 2 (.slice (some ⟨w.heap.size, 0, none⟩) 1 1) 1 (plV n d) :=
  ⟨rfl, .inr ⟨w.heap.size, 1, _, rfl, Nat.zero_le _, heap_alloc_new w _, Nat.le_refl _, by decide, rfl, rfl⟩⟩
theorem reads_pl (w : World) (n : Nat) (d : ByteArray) : Reads (w.alloc (.cells #[.int .i64 (n : Int), .string d] 158)) 2 (.slice (some ⟨w.heap.size, 0, none⟩) 1 1) 1 (plV n d) := Reads.of_own (own_pl w n d)

/-- What Add answers: the place, and what is wrong. -/
def addR (R C : Nat) (D : List ByteArray) (d : ByteArray) : Int × Int :=
  if checkE d ≠ 0 then (0, checkE d) else if R * C < (txt D).length + d.size then (0, 17) else (((txt D).length : Nat), 0)
def addD (R C : Nat) (D : List ByteArray) (d : ByteArray) : List ByteArray := if (addR R C D d).2 = 0 then D ++ [d] else D
def addO (R C : Nat) (D : List ByteArray) (d : ByteArray) (old : Bool) : Bool := if (addR R C D d).2 = 0 then true else old
def AddPost (bl : List Nat) (p R C K : Nat) (D : List ByteArray) (old : Bool) (d : ByteArray) (w : World) (e : Ending) (w' : World) : Prop :=
  e = .returned (.tuple #[.int .i64 (addR R C D d).1, .int .i64 (addR R C D d).2]) ∧ (∃ bl', FrAt w' bl' p R C K (addD R C D d) (addO R C D d old) ∧ ∀ x ∈ bl', x ∈ bl ∨ w.heap.size ≤ x) ∧ Same bl w w'
theorem FrIn.lt {w : World} {bl : List Nat} {p R C K : Nat} {D : List ByteArray} {old : Bool} {G : Nat} {lv : Value} {M : Nat → Nat → UInt8} (h : FrIn w bl p R C K D old G lv M) : p < w.heap.size ∧ G < w.heap.size := ⟨heap_lt h.head, h.grid.lt⟩
theorem own_form {w : World} {base e size n : Nat} {v : Value} {xs : List Value} (h : w.ownsRow base e size v n xs) : ∃ ad c, v = .slice ad n c := by
  rcases h.2 with ⟨rfl, h0⟩ | ⟨g, cap, cur, rfl, _⟩
  · exact ⟨none, 0, by rw [h0]⟩
  · exact ⟨_, _, rfl⟩
theorem add_fin {w w1 wr w7 : World} {o : Obj} {bl : List Nat} {p R C K : Nat} {D : List ByteArray} {old : Bool} {G : Nat} {lv v2 : Value} {M M2 : Nat → Nat → UInt8} {d : ByteArray} (S1 : Same [] w w1) (HF : FrIn w1 bl p R C K D old G lv M)
    (HG : GridAt wr G R M2) (HDA : ∀ r c, r < R → c < 191 → M2 r c = dat R (txt D ++ lb d) r c) (HSM : Same [G] w1 wr) (hown : w7.ownsRow 0 158 2 v2 (D.length + 1) (plL D ++ plV (txt D).length d))
    (hg : (wr.alloc o).grownBy w7 lv.ownBlock) (hat : v2.ownBlock = lv.ownBlock ∨ v2.ownBlock = some (wr.alloc o).heap.size) (hroom : (txt D).length + d.size ≤ R * C) (hfew : D.length < 100) :
    (∃ bl', FrAt (((w7.setCell ⟨p, 3, none⟩ v2).setCell ⟨p, 4, none⟩ (.int .i64 (((txt D).length : Int) + (d.size : Int)))).setCell ⟨p, 6, none⟩ (.bool true)) bl' p R C K (D ++ [d]) true ∧ ∀ x ∈ bl', x ∈ bl ∨ w.heap.size ≤ x) ∧
      Same bl w (((w7.setCell ⟨p, 3, none⟩ v2).setCell ⟨p, 4, none⟩ (.int .i64 (((txt D).length : Int) + (d.size : Int)))).setCell ⟨p, 6, none⟩ (.bool true)) := by
  have hp := HF.lt
  have h1r := HSM.size
  have hs7 : Same lv.ownBlock.toList wr w7 := ((Same.refl _ wr).alloc o).trans (Same.of_grown hg) (fun x hx _ => hx)
  have hsz7 := hs7.size
  have hpl : p ∉ lv.ownBlock.toList := fun hx => (HF.own p (by simpa using hx)).2.1 rfl
  have hGl : G ∉ lv.ownBlock.toList := fun hx => (HF.own G (by simpa using hx)).2.2 rfl
  have hhead : w7.heap[p]? = some (.cells (frC R C K lv (txt D).length G old) 95 (0, 0)) := hs7.heap (HSM.heap HF.head (by simpa using HF.neG)) hpl
  have hown2 : ∀ q, v2.ownBlock = some q → (q ∈ bl ∨ wr.heap.size ≤ q) ∧ q ≠ p ∧ q ≠ G := fun q hq => by
    rcases hat with h | h
    · rw [h] at hq; exact ⟨.inl (HF.own q hq).1, (HF.own q hq).2⟩
    · rw [h] at hq
      injection hq with hq
      rw [World.size_alloc] at hq
      exact ⟨.inr (by omega), by omega, by omega⟩
  have hset : Same [p] w7 (((w7.setCell ⟨p, 3, none⟩ v2).setCell ⟨p, 4, none⟩ (.int .i64 (((txt D).length : Int) + (d.size : Int)))).setCell ⟨p, 6, none⟩ (.bool true)) :=
    (((Same.refl [p] w7).setCell (fun _ => by simp) _).setCell (fun _ => by simp) _).setCell (fun _ => by simp) _
  have htl : (txt (D ++ [d])).length = (txt D).length + d.size := by rw [txt_snoc, List.length_append, lb_length]
  refine ⟨⟨bl ++ v2.ownBlock.toList, ⟨G, v2, M2, ?_⟩, fun x hx => ?_⟩, ?_⟩
  · exact
      { head := by
          rw [htl]
          refine (set_same (set_same (set_same hhead _) _) _).trans ?_
          simp [frC, Int.natCast_add]
        grid := (HG.same hs7 hGl).same hset (by simpa using fun h => HF.neG h.symm)
        holds := ⟨fun r c hr hc => by rw [txt_snoc]; exact HDA r c hr hc, fun h => by cases h⟩
        row := by
          rw [List.length_append, List.length_singleton, plL_snoc]
          exact own_same (S := [p]) hown hset (fun k hk => by simpa using (hown2 k hk).2.1)
        inP := List.mem_append_left _ HF.inP
        inG := List.mem_append_left _ HF.inG
        neG := HF.neG
        own := fun q hq => ⟨List.mem_append_right _ (by simp [hq]), (hown2 q hq).2⟩
        low := HF.low
        room := by rw [htl]; exact hroom
        few := by rw [List.length_append]; show D.length + 1 ≤ 100; omega
        below := fun x hx => by
          have hz := hset.size
          rcases List.mem_append.1 hx with hx | hx
          · have := HF.below x hx; omega
          · have := (World.ownsRow.lt hown x (by simpa using hx)).2; omega }
  · rcases List.mem_append.1 hx with hx | hx
    · exact .inl hx
    · rcases (hown2 x (by simpa using hx)).1 with h | h
      · exact .inl h
      · exact .inr (by have := S1.size; omega)
  · refine ((S1.mono (T := bl) (fun x hx => by simp at hx)).trans HSM (fun x hx _ => ?_)).trans ((hs7.mono (T := lv.ownBlock.toList ++ [p]) (fun x hx _ => List.mem_append_left _ hx)).trans hset (fun x hx _ => List.mem_append_right _ hx)) (fun x hx _ => ?_)
    · rw [List.mem_singleton] at hx; rw [hx]; exact HF.inG
    · rcases List.mem_append.1 hx with hx | hx
      · exact (HF.own x (by simpa using hx)).1
      · rw [List.mem_singleton] at hx; rw [hx]; exact HF.inP
set_option maxRecDepth 100000 in
set_option maxHeartbeats 8000000 in
theorem fadd_any {bl : List Nat} {p R C K : Nat} {D : List ByteArray} {old : Bool} (d : ByteArray) {w : World} (h : FrAt w bl p R C K D old) (hd : d.size ≤ 1000000000) (hD : D.length < 100) :
    Calls Tryz.prog 29 #[.pointer (some ⟨p, 0, none⟩), .string d] w (AddPost bl p R C K D old d w) := by
  obtain ⟨G, lv, M, h⟩ := h
  have H := Lib.hid h
  obtain ⟨c0, c1, c2, c3, c4, c5, c6, cf0⟩ := h.c0
  have HC := Lib.hid (fun W => check_any d W (by unfold maxLen; omega))
  obtain ⟨ce, hce⟩ : ∃ ce, ce = checkE d := ⟨_, rfl⟩
  obtain ⟨n, hn⟩ : ∃ n, n = (txt D).length := ⟨_, rfl⟩
  obtain ⟨rc, hrc⟩ : ∃ rc, rc = R * C := ⟨_, rfl⟩
  have hlow := h.low
  have hroom := h.room
  have hRC : R * C ≤ 1024 * 191 := Nat.mul_le_mul hlow.2.1 hlow.2.2.1
  have haR : addR R C D d = if ce ≠ 0 then ((0 : Int), ce) else if rc < n + d.size then ((0 : Int), (17 : Int)) else ((n : Int), (0 : Int)) := by unfold addR; rw [hce, hn, hrc]
  rw [← hce] at HC
  rw [← hrc] at hroom hRC
  rw [← hn] at c4 hroom
  unfold AddPost addD addO
  by_cases h1 : ce = 0
  · have h1i : (ce == 0) = true := by simpa using h1
    have h1j : (ce != 0) = false := by simpa using h1
    rw [if_neg (fun h9 => h9 h1)] at haR
    have hmul : (R : Int) * (C : Int) = (rc : Int) := by rw [hrc, Int.natCast_mul]
    have hw1 : IntKind.i64.wrap ((R : Int) * (C : Int)) = (rc : Int) := by rw [hmul]; exact IntWalk.i64_in _ (by omega)
    have hw2 : IntKind.i64.wrap ((rc : Int) - (n : Int)) = (rc : Int) - (n : Int) := IntWalk.i64_in _ (by omega)
    have hw3 : wrap64 (rc : Int) = (rc : Int) := by rw [← IntWalk.i64_left, ← hmul]; exact hw1.trans hmul.symm
    have hw4 : wrap64 ((rc : Int) - (n : Int)) = (rc : Int) - (n : Int) := by rw [← IntWalk.i64_left]; exact hw2
    by_cases h2 : rc < n + d.size
    · rw [if_pos h2] at haR
      rw [haR]
      have h2i : decide ((rc : Int) - (n : Int) < (d.size : Int)) = true := decide_eq_true (by omega)
      have h2j : (rc : Int) - (n : Int) < (d.size : Int) := by omega
      clear h haR hce hn hrc hlow hroom hRC h1 h2
      go_enter Tryz.func29, Tryz.ntmps29
      go_wp2_with fail
      (with_reducible refine (HC.out _).mono ?_)
      rintro e w1 ⟨rfl, s1⟩
      have S1 := Lib.hid s1
      have d0 := s1.cell c0 (by simp); have d1 := s1.cell c1 (by simp); have d4 := s1.cell c4 (by simp)
      clear s1 c0 c1 c2 c3 c4 c5 c6 cf0
      go_wp2_with fail
      go_region
      all_goals
        go_wp2_with fail
        go_ret2
        exact ⟨rfl, ⟨bl, ⟨G, lv, M, H.out.same S1.out.drew (fun _ _ => by simp)⟩, fun x hx => .inl hx⟩, S1.out.drew.mono (fun x hx => by simp at hx)⟩
    · rw [if_neg h2] at haR
      rw [haR]
      have h2i : decide ((rc : Int) - (n : Int) < (d.size : Int)) = false := decide_eq_false (by omega)
      have h2j : ¬ (rc : Int) - (n : Int) < (d.size : Int) := by omega
      have HN := Lib.hid hn
      have HL := Lib.hid hlow
      have HRC := Lib.hid hrc
      have hR0 : 0 < R := by omega
      have hR9 : R < 100000 := by omega
      have hfin : n + d.size ≤ rc := by omega
      have hrc9 : rc ≤ 195584 := by omega
      obtain ⟨j0, hj, hy0, hy1, hy2⟩ := info_parts Tryz.infoPl
      have hpG := h.neG
      have hdl : (lb d).length = d.size := lb_length d
      have HDL := Lib.hid hdl
      clear h haR hce hn hrc hlow hroom hRC h1 h2 hdl
      go_enter Tryz.func29, Tryz.ntmps29
      go_wp2_with fail
      (with_reducible refine (HC.out _).mono ?_)
      rintro e w1 ⟨rfl, s1⟩
      have S1 := Lib.hid s1
      have d0 := s1.cell c0 (by simp); have d1 := s1.cell c1 (by simp); have d4 := s1.cell c4 (by simp)
      have hF := H.out.same s1 (fun _ _ => by simp)
      have HF := Lib.hid hF
      clear s1 c0 c1 c2 c3 c4 c5 c6 cf0 hF
      go_wp2_with fail
      go_region
      go_wp2_with fail
      clear d0 d1 d4
      go_loopw [39] (fun i wr => ∃ (k : Nat) (M2 : Nat → Nat → UInt8), k ≤ d.size ∧ i = .int .i64 k ∧ GridAt wr G R M2 ∧ (∀ r c, r < R → c < 191 → M2 r c = dat R (txt D ++ (lb d).take k) r c) ∧ Same [G] w1 wr) (fun i _ => d.size - (intOf i).toNat)
      case atStart => exact ⟨0, M, Nat.zero_le _, rfl, HF.out.grid, fun r c hr hc => by rw [List.take_zero, List.append_nil]; exact HF.out.holds.1 r c hr hc, (Same.refl [G] w1).drew⟩
      case round =>
        obtain ⟨k, M2, hk, rfl, hgr, hda, hsm⟩ := hrel
        have HGR := Lib.hid hgr; have HDA := Lib.hid hda; have HSM := Lib.hid hsm
        have hFp : ∀ i v, w1.cell? ⟨p, i, none⟩ = some v → wr.cell? ⟨p, i, none⟩ = some v := fun i v h9 => hsm.cell h9 (by simpa using hpG)
        obtain ⟨c0, c1, c2, c3, c4, c5, c6, cf0⟩ := HF.out.c0
        by_cases h5 : k < d.size
        · have h5i : (k : Int) < (d.size : Int) := by omega
          obtain ⟨m, hm⟩ : ∃ m, m = n + k := ⟨_, rfl⟩
          have hadd : (n : Int) + (k : Int) = (m : Int) := by omega
          have hm9 : m < 1000000 := by omega
          have e0 := hFp _ _ c0
          obtain ⟨q, hq⟩ : ∃ q, q = m / R := ⟨_, rfl⟩
          obtain ⟨r, hr⟩ : ∃ r, r = m % R := ⟨_, rfl⟩
          have hrR : r < R := by rw [hr]; exact Nat.mod_lt _ hR0
          have hqC : q < 191 := by
            rw [hq]; exact Nat.div_lt_of_lt_mul (by have := Nat.mul_le_mul (Nat.le_refl R) HL.out.2.2.1; have := HRC.out; omega)
          have HSP := Lib.hid (by have h9 := spot_any p m R wr e0 hR0 hR9 (by omega); rw [← hq, ← hr] at h9; exact h9)
          have hbt := bt_at d k h5
          obtain ⟨x, hx⟩ : ∃ x, x = cf (lb d) k := ⟨_, rfl⟩
          rw [← hx] at hbt
          have hcv1 : ∀ W, (convert 156 3 (.float .f64 (Flt.fz r))).run Tryz.prog W = .ok (.int .i64 (r : Int)) W := fun W =>
            run_convert_float_int W _ _ _ _ _ _ (by kernel_rfl) Tryz.underlying3 (Flt.int_fz r (by omega))
          have hcv2 : ∀ W, (convert 156 3 (.float .f64 (Flt.fz q))).run Tryz.prog W = .ok (.int .i64 (q : Int)) W := fun W =>
            run_convert_float_int W _ _ _ _ _ _ (by kernel_rfl) Tryz.underlying3 (Flt.int_fz q (by omega))
          have hri : (r : Int) < (R : Int) := by omega
          have hqi : (q : Int) < 255 := by omega
          have hnext : ∀ r' c', r' < R → c' < 191 → updM M2 r q x r' c' = dat R (txt D ++ (lb d).take (k + 1)) r' c' := fun r' c' hr' hc' => by
            rw [take_snoc (lb d) k (by rw [HDL.out]; exact h5), ← List.append_assoc, dat_snoc _ _ hr', List.length_append, List.length_take, HDL.out, Nat.min_eq_left hk, ← HN.out, ← hm, ← hq, ← hr, ← hx]
            unfold updM
            by_cases he : r' = r ∧ c' = q
            · rw [if_pos he, if_pos he]
            · rw [if_neg he, if_neg he]; exact hda r' c' hr' hc'
          have HNX := Lib.hid hnext
          have e5 := hFp _ _ c5
          clear hgr hda hsm hFp c0 c1 c2 c3 c4 c5 c6 cf0 e0 hx hq hr hnext hm
          go_wp2_with fail
          (with_reducible refine HSP.out.mono ?_)
          rintro e w2 ⟨rfl, s2⟩
          have S2 := Lib.hid s2
          have g5 := s2.cell e5 (by simp)
          have hg2 := HGR.out.same s2 (by simp)
          have HG2 := Lib.hid hg2
          have gc := hg2.cell hrR (show q < 255 by omega)
          have gf := hg2.free (r * 255 + q)
          obtain ⟨y, hy⟩ : ∃ y, y = M2 r q := ⟨_, rfl⟩
          rw [← hy] at gc
          clear s2 e5 hg2 hy
          go_wp2_with fail
          go_region
          all_goals
            go_wp2_with fail
            go_roundw
            case rel => exact ⟨k + 1, updM M2 r q x, by omega, by go_num, HG2.out.set hrR (by omega) x, HNX.out, ((HSM.out.trans_nil S2.out).setCell (fun _ => by simp) _).drew⟩
            case measure => simp [intOf]; omega
        · obtain rfl : k = d.size := by omega
          have h5i : ¬ (d.size : Int) < (d.size : Int) := by omega
          have hdz : ∀ r c, r < R → c < 191 → M2 r c = dat R (txt D ++ lb d) r c := by rw [← HDL.out, List.take_length] at hda; exact hda
          have HDZ := Lib.hid hdz
          have e3 := hFp _ _ c3; have e4 := hFp _ _ c4; have e6 := hFp _ _ c6
          have HROW := Lib.hid (own_same (S := [G]) HF.out.row hsm (fun q hq => by simpa using (HF.out.own q hq).2.2))
          have HHEAD := Lib.hid (hsm.heap HF.out.head (by simpa using hpG))
          have m1 : D.length + 1 ≤ maxLen := by unfold maxLen; omega
          have n1 : (D.length + 1) * 24 ≤ 140737488355328 := by omega
          have hpl : p ∉ lv.ownBlock.toList := fun hx => (HF.out.own p (by simpa using hx)).2.1 rfl
          have HPL := Lib.hid hpl
          clear hgr hda hsm hFp c0 c1 c2 c3 c4 c5 c6 cf0 h5 hdz hpl
          go_wp2_with (at_builtin; refine wpList_append_src rfl (.tmp 67) (.tmp 71) 92 rfl 0 158 j0 (.agg #[.int .i64 0, .string ByteArray.empty]) 2 24 Tryz.underlying92 hj hy0 hy1 hy2 plZ_cells (by decide) _ D.length (plL D) rfl (by exact World.ownsRow.alloc HROW.out _) _ 1 (plV n d) rfl (by exact reads_pl wr n d) (one_pl n d) m1 n1 (Nat.zero_le _) ?_; intro v2 w7 hown hgrow hat; obtain ⟨ad7, cp7, rfl⟩ := own_form hown; have hh7 := (Same.of_grown hgrow).heap ((Same.refl [] wr).alloc _ |>.heap HHEAD.out (by simp)) HPL.out; have k3 : w7.cell? ⟨p, 3, none⟩ = some lv := cell_of hh7 3; have k4 : w7.cell? ⟨p, 4, none⟩ = some (.int .i64 ((txt D).length : Nat)) := cell_of hh7 4; have k6 : w7.cell? ⟨p, 6, none⟩ = some (.bool old) := cell_of hh7 6; have f3 := free_of hh7 3; have f4 := free_of hh7 4; have f6 := free_of hh7 6; have HOWN := Lib.hid hown; have HGW := Lib.hid hgrow; have HAT := Lib.hid hat; clear hown hgrow hat hh7)
          rw [HN.out]
          go_ret2
          exact ⟨rfl, add_fin S1.out HF.out HGR.out HDZ.out HSM.out (by rw [← HN.out]; exact HOWN.out) HGW.out HAT.out (by rw [← HN.out, ← HRC.out]; exact hfin) hD⟩
  · have h1i : (ce == 0) = false := by simpa using h1
    have h1j : (ce != 0) = true := by simpa using h1
    rw [if_pos h1] at haR
    rw [haR]
    simp only [if_neg h1]
    clear h haR hce hn hrc hlow hroom hRC h1
    go_enter Tryz.func29, Tryz.ntmps29
    go_wp2_with fail
    (with_reducible refine (HC.out _).mono ?_)
    rintro e w1 ⟨rfl, s1⟩
    have S1 := Lib.hid s1
    clear s1
    go_wp2_with fail
    go_ret2
    exact ⟨rfl, ⟨bl, ⟨G, lv, M, H.out.same S1.out (fun _ _ => by simp)⟩, fun x hx => .inl hx⟩, S1.out.mono (fun x hx => by simp at hx)⟩
end Go.Proofs.YtpkpfebhdgbgbaaGreatDoor.K
namespace Go.Proofs.YtpkpfebhdgbgbaaGreatDoor.K
open Go.RowKit
set_option linter.unusedSimpArgs false
set_option linter.unusedVariables false

section
variable {P : Program} {w : World}
theorem wpList_copy_text {ops : Array Oper} {rest : List Oper} {o : Oper} {a : Act} {Q : Exit → Act → World → Prop} (hgd : o.guard = none) (d x : Operand) (dT sT : TypeId)
    (ho : o.op = .call { callee := .builtin .copy, args := #[d, x], argTypes := #[dT, sT] }) (elem : TypeId) (hu : P.underlying dT = some (.slice elem)) (hz : ∀ w, (Go.sizeOf elem).run P w = .ok 1 w)
    (b off dLen dCap : Nat) (hd : a.eval d = .slice (some ⟨b, off, none⟩) dLen dCap) (t : ByteArray) (hx : a.eval x = .string t) (hle : t.size ≤ dLen)
    (hc : ∀ j, j < t.size → (w.cell? ⟨b, off + j, none⟩).isSome = true) (hf : ∀ j, j < t.size → w.frozen? ⟨b, off + j, none⟩ = false)
    (h : wpList P ops Q rest (a.put o.dst (goInt t.size)) (w.setCells b off (t.data.toList.map fun x => Value.int .u8 (x.toNat : Int)))) :
    wpList P ops Q (o :: rest) a w := by
  refine wpList_plain hgd fun K hK => ?_
  have hrun := run_copy_string (P := P) w dT sT o.type elem b off dLen dCap t hu hz hle hc hf
  unfold Oper.wp execOp
  simp only [ho, resolve, invoke, builtin, Sem.run_bind, Sem.run_pure, Result.andThen_ok, List.map_toArray, List.map_cons, List.map_nil, hd, hx, hrun]
  exact hK _ _ h
end
theorem row_conv {w : World} {G R : Nat} {M : Nat → Nat → UInt8} (h : GridAt w G R M) {r m cap : Nat} (hr : r < R) (hm : m ≤ 255) (l : List UInt8) (hl : l = ofF m (M r)) :
    (convert 33 9 (.slice (some ⟨G, r * 255, none⟩) m cap)).run Tryz.prog w = .ok (.string (bs l)) w := by
  have hll : l.length = m := by rw [hl, ofF_length]
  rw [run_convert_bytes_arg w 33 5 Tryz.underlying33 Tryz.underlying5 G (r * 255) m cap (l.map fun (x : UInt8) => (x.toNat : Int)) (by rw [List.length_map, hll]) (fun i hi => ?_) 9 Tryz.underlying9]
  · congr 2
    rw [show (l.map fun (x : UInt8) => (x.toNat : Int)) = (l.map UInt8.toNat).map fun (n : Nat) => (n : Int) by rw [List.map_map]; rfl]
    rw [← strOf_nums]
    simp [strOfNums, strOf, Function.comp_def]
  · rw [h.cell hr (show i < 255 by omega)]
    have h2 : i < l.length := by omega
    simp only [List.getD_eq_getElem?_getD, List.getElem?_map, List.getElem?_eq_getElem h2, Option.map_some, Option.getD_some]
    have h3 : l[i] = M r i := by simp only [hl, ofF_get]
    rw [h3]
/-- Rows below k have their parity. -/
def FrK (w : World) (G R : Nat) (X : List UInt8) (k : Nat) (w' : World) : Prop :=
  ∃ M, GridAt w' G R M ∧ (∀ r c, r < R → c < 191 → M r c = dat R X r c) ∧ (∀ r c, r < k → c < 255 → M r c = full R X r c) ∧ Same [G] w w'
theorem frK_next {w w1 w2 : World} {G R : Nat} {X : List UInt8} {k : Nat} (hk : k < R) (h : FrK w G R X k w1) (hs : Same [] w1 w2) : FrK w G R X (k + 1) (w2.setCells G (k * 255 + 191) (u8l (par (rowD R X k)))) := by
  obtain ⟨M, h1, h2, h3, h4⟩ := h
  have hp : (par (rowD R X k)).length = 64 := par_length _
  refine ⟨updR M k 191 (par (rowD R X k)), (h1.same hs (by simp)).sets hk _ (by rw [hp]; decide), fun r c hr hc => ?_, fun r c hr hc => ?_, sets_same _ (h4.trans_nil hs) (fun _ => by simp)⟩
  · unfold updR
    rw [if_neg (fun h9 => by omega)]; exact h2 r c hr hc
  · unfold updR
    by_cases hc2 : c < 191
    · rw [if_neg (fun h9 => by omega), full_data hc2]; exact h2 r c (by omega) hc2
    · by_cases hrk : r = k
      · subst hrk
        rw [if_pos ⟨rfl, by omega, by rw [hp]; omega⟩, full_par (by omega)]
      · rw [if_neg (fun h9 => hrk h9.1)]; exact h3 r c (by omega) hc
def freshJ (w : World) (p G R : Nat) (X : List UInt8) (a : Act) (w' : World) : Prop :=
  ∃ (k : Nat) (u1 u3 u4 u5 u6 u7 u8 u9 u10 u11 u12 u13 u14 u15 u16 u17 u18 u19 u20 u21 u22 u23 u24 u25 u26 u27 u28 u29 u30 u31 u32 u33 u34 u35 u36 u37 u38 u39 u40 u41 u42 u43 : Value), k ≤ R ∧ FrK w G R X k w' ∧ a = { tmps := #[.pointer (some ⟨p, 0, none⟩), u1, .int .i64 (k : Int), u3, u4, u5, u6, u7, u8, u9, u10, u11, u12, u13, u14, u15, u16, u17, u18, u19, u20, u21, u22, u23, u24, u25, u26, u27, u28, u29, u30, u31, u32, u33, u34, u35, u36, u37, u38, u39, u40, u41, u42, u43], defers := [] }
/-- What fresh leaves: the same frame with parity that is not stale. -/
def FreshPost (bl : List Nat) (p R C K : Nat) (D : List ByteArray) (w : World) (e : Ending) (w' : World) : Prop :=
  e = .returned (.tuple #[]) ∧ FrAt w' bl p R C K D false ∧ Same bl w w'
theorem fresh_fin {w wr : World} {bl : List Nat} {p R C K : Nat} {D : List ByteArray} {old : Bool} {G : Nat} {lv : Value} {M : Nat → Nat → UInt8} (HF : FrIn w bl p R C K D old G lv M) (h : FrK w G R (txt D) R wr) :
    FrAt (wr.setCell ⟨p, 6, none⟩ (.bool false)) bl p R C K D false ∧ Same bl w (wr.setCell ⟨p, 6, none⟩ (.bool false)) := by
  obtain ⟨M2, h1, h2, h3, h4⟩ := h
  have hhead := h4.heap HF.head (by simpa using HF.neG)
  have hset : Same [p] wr (wr.setCell ⟨p, 6, none⟩ (.bool false)) := (Same.refl [p] wr).setCell (fun _ => by simp) _
  refine ⟨⟨G, lv, M2, ?_⟩, ((h4.mono (T := [G, p]) (fun x hx _ => by simp at hx; simp [hx])).trans hset (fun x hx _ => by simp at hx; simp [hx])).mono (fun x hx _ => ?_)⟩
  · exact
      { HF with
        head := (set_same hhead _).trans (by simp [frC])
        grid := h1.same hset (by simpa using fun h => HF.neG h.symm)
        holds := ⟨h2, fun _ r c hr hc => h3 r c hr hc⟩
        row := own_same (S := [p]) (own_same (S := [G]) HF.row h4 (fun k hk => by simpa using (HF.own k hk).2.2)) hset (fun k hk => by simpa using (HF.own k hk).2.1)
        below := fun x hx => Nat.lt_of_lt_of_le (HF.below x hx) (Nat.le_trans h4.size hset.size) }
  · have hx2 : x = G ∨ x = p := by simpa using hx
    rcases hx2 with rfl | rfl
    · exact HF.inG
    · exact HF.inP
set_option maxRecDepth 100000 in
set_option maxHeartbeats 8000000 in
theorem fresh_any {bl : List Nat} {p R C K : Nat} {D : List ByteArray} {old : Bool} {w : World} (h : FrAt w bl p R C K D old) :
    Calls Tryz.prog 31 #[.pointer (some ⟨p, 0, none⟩)] w (FreshPost bl p R C K D w) := by
  obtain ⟨G, lv, M, h⟩ := h
  have H := Lib.hid h
  obtain ⟨c0, c1, c2, c3, c4, c5, c6, cf0⟩ := h.c0
  cases old with
  | false =>
    have f6 := cf0 6
    have HK := Lib.hid (show FrK w G R (txt D) R w from ⟨M, h.grid, h.holds.1, fun r c hr hc => h.holds.2 rfl r c hr hc, Same.refl _ _⟩)
    clear h cf0
    go_enter Tryz.func31, Tryz.ntmps31
    go_wp2_with fail
    go_step3
    go_wp2_with fail
    go_step3
    go_wp2_with fail
    rw [Exit.noGoto_ret]
    refine bodyPost_ret (v := .tuple #[]) (by simp [results, Tryz.results31, go_sem]) rfl ⟨rfl, fresh_fin H.out HK.out⟩
  | true =>
    obtain ⟨X, hX⟩ : ∃ X, X = txt D := ⟨_, rfl⟩
    have HX := Lib.hid hX
    have HK := Lib.hid (show FrK w G R X 0 w from ⟨M, h.grid, by rw [hX]; exact h.holds.1, fun r c hr hc => by omega, Same.refl _ _⟩)
    have hpG := h.neG
    have hR := h.low
    clear h cf0 hX
    go_enter Tryz.func31, Tryz.ntmps31
    go_wp2_with fail
    refine wp_scope_one 0 (freshJ w p G R X) (fun a _ => match a.tmps.getD 2 undef with | .int _ r => (R - r).toNat | _ => 0) rfl ?_ ?_
    · simp only [wpAll]
      go_wp2_with fail
      exact ⟨0, _, _, _, _, _, _, _, _, _, _, _, _, _, _, _, _, _, _, _, _, _, _, _, _, _, _, _, _, _, _, _, _, _, _, _, _, _, _, _, _, _, _, Nat.zero_le _, HK.out, rfl⟩
    · rintro a w1 ⟨k, u1, u3, u4, u5, u6, u7, u8, u9, u10, u11, u12, u13, u14, u15, u16, u17, u18, u19, u20, u21, u22, u23, u24, u25, u26, u27, u28, u29, u30, u31, u32, u33, u34, u35, u36, u37, u38, u39, u40, u41, u42, u43, hk, hfk, rfl⟩
      have HFK := Lib.hid hfk
      obtain ⟨M1, g1, g2, g3, g4⟩ := hfk
      have e5 := g4.cell c5 (by simpa using hpG); have e6 := g4.cell c6 (by simpa using hpG)
      have hhead := g4.heap H.out.head (by simpa using hpG)
      have f6 := free_of hhead 6
      have HG1 := Lib.hid g1; have HG2 := Lib.hid g2
      clear g1 g2 g3 g4 c0 c1 c2 c3 c4 c5 c6 hhead
      by_cases hkR : k < R
      · have hkRi : (k : Int) < (R : Int) := by omega
        have hke : ((k : Int) == (R : Int)) = false := by simp; omega
        have hcv := row_conv (m := 191) (cap := 255) HG1.out hkR (by decide) (rowD R X k) (by unfold rowD; exact ofF_ext fun c hc => (HG2.out k c hkR hc).symm)
        obtain ⟨S, hS⟩ : ∃ S, S = bs (rowD R X k) := ⟨_, rfl⟩
        have hSs : S.size = 191 := by rw [hS, size_bs, rowD_length]
        rw [← hS] at hcv
        have HENC := Lib.hid (fun W => enc_k S W hSs)
        have hps : (parS S).size = 64 := parS_size S
        have HPS := Lib.hid (show lb (parS S) = par (rowD R X k) by rw [hS]; unfold parS; rw [lb_bs, lb_bs])
        obtain ⟨PS, hPS⟩ : ∃ PS, PS = parS S := ⟨_, rfl⟩
        rw [← hPS] at HENC hps HPS
        clear hS hSs hPS
        go_wp2_with fail
        (with_reducible refine (HENC.out _).mono ?_)
        rintro e w2 ⟨rfl, s2⟩
        have S2 := Lib.hid s2
        have hg2 := HG1.out.same s2 (by simp)
        have hcc : ∀ j, j < PS.size → (w2.cell? ⟨G, k * 255 + 191 + j, none⟩).isSome = true := fun j hj => by
          rw [Nat.add_assoc, hg2.cell hkR (show 191 + j < 255 by omega)]; rfl
        have hff : ∀ j, j < PS.size → w2.frozen? ⟨G, k * 255 + 191 + j, none⟩ = false := fun j _ => hg2.free _
        have HCC := Lib.hid hcc; have HFF := Lib.hid hff
        clear s2 hg2 hcc hff hcv
        go_wp2_with (refine wpList_copy_text rfl (.tmp 39) (.tmp 40) 33 9 rfl 5 Tryz.underlying33 (fun _ => by kernel_rfl) G (k * 255 + 191) 64 64 (by rfl) PS (by rfl) (by omega) HCC.out HFF.out ?_)
        go_step3
        refine ⟨rfl, ⟨k + 1, _, _, _, _, _, _, _, _, _, _, _, _, _, _, _, _, _, _, _, _, _, _, _, _, _, _, _, _, _, _, _, _, _, _, _, _, _, _, _, _, _, _, by omega, ?_, rfl⟩, ?_⟩
        · have h9 := frK_next hkR HFK.out S2.out
          rw [← HPS.out] at h9
          exact h9
        · simp; omega
      · obtain rfl : k = R := by omega
        have hke : ((k : Int) == (k : Int)) = true := by simp
        clear hkR
        go_wp2_with fail
        simp only [jump1]
        refine bodyPost_ret (v := .tuple #[]) (by simp [results, Tryz.results31, go_sem]) rfl ⟨rfl, fresh_fin H.out (by rw [← HX.out]; exact HFK.out)⟩
end Go.Proofs.YtpkpfebhdgbgbaaGreatDoor.K
