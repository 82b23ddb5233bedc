/- How many packets sections of given sizes need (packer.Many). Condition: up to 1000 sizes. -/
import Derived.Test.YtpnbhgmcfooppaaDoorDMn1
import Derived.Test.YtpnbhgmcfooppaaDoorDPq4
import Derived.Test.YtpnbhgmcfooppaaDoorDBd7
import Derived.Test.YtpnbhgmcfooppaaDoorBitsOut
namespace Go.Proofs.YtpnbhgmcfooppaaDoor
open Go.RowKit
set_option linter.unusedSimpArgs false
set_option linter.unusedVariables false

theorem sceX {W w1 : World} (hs : Same [] W w1) : ∀ b o, b < W.heap.size → w1.cell? ⟨b, o, none⟩ = W.cell? ⟨b, o, none⟩ := fun b o h => World.cell?_of_block (hs.block b h (by simp))
theorem sceY {W w1 : World} (hs : Same [] W w1) : ∀ (o : Obj) (b i : Nat), b < W.heap.size → (w1.alloc o).cell? ⟨b, i, none⟩ = W.cell? ⟨b, i, none⟩ :=
  fun o b i h => World.cell?_of_block ((Below.heap_alloc _ _ _ (Nat.lt_of_lt_of_le h hs.size)).trans (hs.block b h (by simp)))
/-- So many signs 'x'. -/
def xS (n : Nat) : ByteArray := ⟨(List.replicate n (120 : UInt8)).toArray⟩
theorem size_xS (n : Nat) : (xS n).size = n := by show (List.replicate n (120 : UInt8)).toArray.size = n; simp
theorem repeat_x (n : Nat) (w : World) (hn : n ≤ 1000000) : Calls Tryd.prog 35 #[.string ⟨#[120]⟩, .int .i64 n] w (Ret (.string (xS n)) w) :=
  (Tryd.strings_Repeat ⟨#[120]⟩ n w (by omega) (by show 1 * n ≤ _; omega)).mono fun e w' ⟨he, hb⟩ => ⟨by
    have h : ∀ n, Lib.repeatL ([120] : List UInt8) n = List.replicate n 120 := fun n => by
      induction n with
      | zero => rfl
      | succ n ih => rw [Lib.repeatL, ih]; rfl
    rw [he]; unfold xS; rw [← h n], Same.of_below hb⟩
def xsL (xs : List Int) : List ByteArray := xs.map fun x => xS x.toNat
def MayN (x : Int) : Prop := 12 ≤ x ∧ x ≤ 4096
theorem cat_xs : ∀ (xs : List Int), (∀ x ∈ xs, MayN x) → (catL (xsL xs)).size ≤ 4096 * xs.length
  | [], _ => Nat.le_refl _
  | x :: xs, h => by
    have h1 := h x List.mem_cons_self
    have := cat_xs xs (fun y hy => h y (List.mem_cons_of_mem _ hy))
    show (xS x.toNat ++ catL (xsL xs)).size ≤ _
    rw [ByteArray.size_append, size_xS, List.length_cons]
    unfold MayN at h1; omega
/-- What Many answers. -/
def ManyPost (w : World) (xs : List Int) (e : Ending) (w' : World) : Prop := Same [] w w' ∧
  (((∀ x ∈ xs, MayN x) ∧ e = .returned (.int .i64 ((packG (catL (xsL xs)).size ⟨#[]⟩ (xsL xs)).length : Nat))) ∨ ((∃ x, x ∈ xs ∧ ¬ MayN x) ∧ e = .returned (.int .i64 0)))

theorem xsL_snoc (xs : List Int) (n : Nat) : xsL (xs ++ [(n : Int)]) = xsL xs ++ [xS n] := by unfold xsL; rw [List.map_append]; simp
theorem xsL_length (xs : List Int) : (xsL xs).length = xs.length := by simp [xsL]
/-- One section more. -/
theorem many_close {w wr w' w4 : World} {B n cap' g' : Nat} {pre : List Int} {V : Value} (hB : B = w.heap.size) (hs : Same [] w wr) (hs2 : Same [] wr.drew w')
    (hst : StAt w4 B ⟨#[]⟩ V) (hown : w4.ownsRow (B + 1) 9 1 (.slice (some ⟨g', 0, none⟩) (pre.length + 1) cap') (pre.length + 1) (strVals (xsL pre) ++ [.string (xS n)]))
    (hg : (w'.alloc (.cells #[.string (xS n)] 9)).grownBy w4 V.ownBlock) (hnb : ∀ q, q ∈ V.ownBlock.toList → B < q) :
    StAt (w4.setCell ⟨B, 1, none⟩ (.slice (some ⟨g', 0, none⟩) (pre.length + 1) cap')) B ⟨#[]⟩ (.slice (some ⟨g', 0, none⟩) (pre.length + 1) cap') ∧
    (w4.setCell ⟨B, 1, none⟩ (.slice (some ⟨g', 0, none⟩) (pre.length + 1) cap')).ownsRow (B + 1) 9 1 (.slice (some ⟨g', 0, none⟩) (pre.length + 1) cap') (pre ++ [(n : Int)]).length (strVals (xsL (pre ++ [(n : Int)]))) ∧
    Same [] w (w4.setCell ⟨B, 1, none⟩ (.slice (some ⟨g', 0, none⟩) (pre.length + 1) cap')) := by
  have hgB : B + 1 ≤ g' := (hown.lt g' rfl).1
  refine ⟨hst.set1 _, ?_, ?_⟩
  · rw [List.length_append, List.length_singleton, xsL_snoc]
    have e : strVals (xsL pre ++ [xS n]) = strVals (xsL pre) ++ [.string (xS n)] := by simp [strVals]
    rw [e]
    exact own_same hown ((Same.refl [B] w4).setCell (by simp) _) (fun k hk => by cases hk; simp; omega)
  · have h1 : Same [] w w4 := ((hs.drew.trans_nil hs2).alloc _).trans (Same.of_grown hg) (fun x hx hlt => by have := hnb x hx; omega)
    exact h1.setCell (fun h => absurd (show B < w.heap.size from h) (by omega)) _
theorem Tryd.infoX : (Tryd.prog.info? 9).map (fun i => (i.zero, i.size, i.bytes)) = some (some (.string ByteArray.empty), 1, 16) := by kernel_rfl
theorem ls_of_own {w : World} {B N : Nat} {V : Value} {L : List ByteArray} (h : w.ownsRow (B + 1) 9 1 V L.length (strVals L)) (hN : w.heap.size ≤ N) : LsAt w B N V L := by
  rcases h.2 with ⟨rfl, h0⟩ | ⟨g, cap, cur, rfl, hgb, hg, hnc, hcm, hcs, ht⟩
  · have : L = [] := List.eq_nil_of_length_eq_zero h0
    subst this
    exact ⟨none, 0, rfl, Nat.le_refl _, Nat.zero_le _, fun i hi => absurd hi (Nat.not_lt_zero _)⟩
  · have hlt : g < w.heap.size := heap_lt hg
    refine ⟨_, cap, rfl, hnc, hcm, fun i hi => ⟨g, 0, rfl, ⟨by omega, by omega⟩, ?_⟩⟩
    have h1 := congrArg (fun z => z[i]?) ht
    simp only [List.getElem?_take] at h1
    rw [if_pos (by omega)] at h1
    rw [cell_of hg, ← Array.getElem?_toList, Nat.zero_add, h1]
    simp [strVals, hi]

set_option maxRecDepth 100000 in
set_option maxHeartbeats 8000000 in
theorem many_any (xs : List Int) (v : Value) (w : World) (hr : NumsAt w v xs) (hl : xs.length ≤ 1000) : Calls Tryd.prog 22 #[v] w (ManyPost w xs) := by
  obtain ⟨i0, hi, hz0, hz1, hz2⟩ := info_parts Tryd.infoX
  obtain ⟨ad, cp, rfl, hlc, hcm, hcell⟩ := hr
  have HC := Lib.hid hcell
  clear hcell
  go_enter Tryd.func22, Tryd.ntmps22
  go_wp2_with fail
  have hst : StAt (w.alloc (.cells #[.string ⟨#[]⟩, .slice none 0 0] 75)) w.heap.size ⟨#[]⟩ (.slice none 0 0) := heap_alloc_new w _
  have hs : Same [] w (w.alloc (.cells #[.string ⟨#[]⟩, .slice none 0 0] 75)) := (Same.refl [] w).alloc _
  generalize w.alloc (.cells #[.string ⟨#[]⟩, .slice none 0 0] 75) = w1 at hst hs ⊢
  obtain ⟨B, hB⟩ : ∃ B, B = w.heap.size := ⟨_, rfl⟩
  rw [← hB] at hst ⊢
  have HB := Lib.hid hB; have HST := Lib.hid hst; have HS := Lib.hid hs
  clear hB hst hs
  go_loopw [11] (fun i wr => ∃ (pre ls : List Int) (V : Value), xs = pre ++ ls ∧ i = .int .i64 pre.length ∧ (∀ x ∈ pre, MayN x) ∧ StAt wr B ⟨#[]⟩ V ∧ wr.ownsRow (B + 1) 9 1 V pre.length (strVals (xsL pre)) ∧ Same [] w wr) (fun i _ => xs.length - (intOf i).toNat)
  case atStart => exact ⟨[], xs, _, rfl, rfl, by simp, HST.out, World.ownsRow_nil _ _ _ _, HS.out⟩
  case round =>
    obtain ⟨pre, ls, V, hL, rfl, hok, hst, hown, hs⟩ := hrel
    have HOK := Lib.hid hok; have HST := Lib.hid hst; have HO := Lib.hid hown; have HS := Lib.hid hs
    have hpl : pre.length ≤ xs.length := by rw [hL]; simp
    clear hok hs
    cases ls with
    | cons x ls =>
      have hlen : pre.length < xs.length := by rw [hL]; simp
      have hlt : (pre.length : Int) < (xs.length : Int) := by omega
      obtain ⟨a, rfl, hsp, c0⟩ := HC.out pre.length hlen
      obtain ⟨g, o, sp⟩ := a
      simp only at hsp c0
      subst hsp
      have hx : xs[pre.length] = x := by simp [hL]
      rw [hx] at c0
      have d0 := HS.out.cell c0 (by simp)
      have HL := Lib.hid hL
      clear c0 hL hx
      by_cases hm : MayN x
      · have HM := Lib.hid hm
        obtain ⟨n, rfl⟩ : ∃ n : Nat, x = n := ⟨x.toNat, by unfold MayN at hm; omega⟩
        have hn1 : ¬ (n : Int) < 12 := by unfold MayN at hm; omega
        have hn2 : ¬ (4096 : Int) < (n : Int) := by unfold MayN at hm; omega
        have HRP := Lib.hid (fun W => repeat_x n W (by unfold MayN at hm; omega))
        obtain ⟨⟨c0, c1⟩, f0, f1⟩ := hst.cells
        have hbl : B < wr.heap.size := heap_lt hst
        have hnb : ∀ q, q ∈ V.ownBlock.toList → B < q := fun q hq => by have := (hown.lt q (by simpa using hq)).1; omega
        have HNB := Lib.hid hnb
        clear hm hst hown hnb
        go_upto_region 7 with fail
        go_region_law (first | (refine step_append_src rfl (.tmp 25) (.tmp 28) 22 rfl (B + 1) 9 i0 (.string ByteArray.empty) 1 16 Tryd.underlying22 hi hz0 hz1 hz2 rfl (by decide) V pre.length (strVals (xsL pre)) rfl (by exact own_same (S := []) HO.out (by repeat (first | exact Same.refl _ _ | refine Same.drew ?_ | refine Same.alloc ?_ _ | refine Same.trans_nil ?_ HS2.out)) (fun _ _ h => nomatch h)) _ 1 [.string (xS n)] rfl (by exact Reads.of_own (row_new _ #[.string (xS n)] 9 1 rfl (by decide))) (by intro u hu; simp at hu; subst hu; rfl) (by unfold maxLen; omega) (by omega) (by simp only [World.size_alloc, drew_heap]; omega) ?_; intro v' w4 hown hgrow hat; obtain ⟨g', cap', cur', rfl, _⟩ := grow_succ hown; have hst4 := (StAt.same (S := []) HST.out (by repeat (first | exact Same.refl _ _ | refine Same.drew ?_ | refine Same.alloc ?_ _ | refine Same.trans_nil ?_ HS2.out)) (by simp)).same (Same.of_grown hgrow) (fun hm => by have := HNB.out _ hm; omega); have h4c := hst4.cells; have h4d := h4c.1.2; have h4e := h4c.2.2; have HST4 := Lib.hid hst4; have HOWN := Lib.hid hown; have HG := Lib.hid hgrow; have HAT := Lib.hid hat; clear hown hgrow hat hst4 h4c) | (go_simp; go_at_call 35; (with_reducible refine (HRP.out _).mono ?_); rintro e w' ⟨rfl, hs2⟩; have sc1 := sceX hs2; have sc3 := sceY hs2; have hz := hs2.size; (try simp only [drew_heap, World.size_alloc] at hz sc1 sc3); have HS2 := Lib.hid hs2; clear hs2))
        all_goals
          go_wp2_with fail
          obtain ⟨q1, q2, q3⟩ := many_close (n := n) HB.out HS.out HS2.out HST4.out HOWN.out HG.out HNB.out
          go_roundw
          case rel => exact ⟨pre ++ [(n : Int)], ls, _, by rw [HL.out]; simp, by simp, by
            intro y hy
            rcases List.mem_append.1 hy with hy | hy
            · exact HOK.out y hy
            · simp at hy; rw [hy]; exact HM.out, q1, q2, q3⟩
          case measure => simp [intOf]; omega
      · have HM := Lib.hid hm
        clear hst hown
        by_cases h12 : x < 12
        · go_wp2_with fail
          go_ret
          exact ⟨HS.out, .inr ⟨⟨x, by rw [HL.out]; simp, HM.out⟩, rfl⟩⟩
        · have h13 : (4096 : Int) < x := by unfold MayN at hm; omega
          go_wp2_with fail
          go_ret
          exact ⟨HS.out, .inr ⟨⟨x, by rw [HL.out]; simp, HM.out⟩, rfl⟩⟩
    | nil =>
      have hL2 : xs = pre := by rw [hL]; simp
      subst hL2
      have hlt : ¬ (xs.length : Int) < (xs.length : Int) := by omega
      clear hL
      have hls : LsAt wr B wr.heap.size V (xsL xs) := ls_of_own (by rw [xsL_length]; exact hown) (Nat.le_refl _)
      have hcs := cat_xs xs HOK.out
      have hpos0 : ∀ x ∈ xsL xs, 0 < x.size := by
        intro y hy
        unfold xsL at hy
        obtain ⟨z, hz, rfl⟩ := List.mem_map.1 hy
        have := HOK.out z hz
        rw [size_xS]; unfold MayN at this; omega
      obtain ⟨N, hN⟩ : ∃ N, N = wr.heap.size := ⟨_, rfl⟩
      rw [← hN] at hls
      obtain ⟨w2, rfl⟩ : ∃ w2 : World, w2 = wr := ⟨_, rfl⟩
      have HLS := Lib.hid hls; have HP0 := Lib.hid hpos0
      have hpz := pack_len (catL (xsL xs)).size ⟨#[]⟩ (xsL xs)
      rw [nil_append] at hpz
      obtain ⟨M, hM⟩ : ∃ M, M = (packG (catL (xsL xs)).size ⟨#[]⟩ (xsL xs)).length := ⟨_, rfl⟩
      rw [← hM] at hpz
      have HM := Lib.hid hM
      clear hls hpos0 hM hN hst hown
      go_wp2_with fail
      go_loopw [6] (fun s6 wv => ∃ (d k : Nat) (t : ByteArray) (l : List ByteArray) (V : Value), M = d + (packG k t l).length ∧ (t ++ catL l).size ≤ k ∧ k ≤ (catL (xsL xs)).size ∧ (∀ x ∈ l, 0 < x.size) ∧ StAt wv B t V ∧ LsAt wv B N V l ∧ s6 = .int .i64 d ∧ Same [] w wv) (fun _ wv => stM2 B N wv)
      case atStart => exact ⟨0, (catL (xsL xs)).size, ⟨#[]⟩, xsL xs, _, by rw [HM.out]; omega, by rw [nil_append]; exact Nat.le_refl _, Nat.le_refl _, HP0.out, HST.out, HLS.out, rfl, HS.out⟩
      case round =>
        obtain ⟨d, k, t, l, V, hP, hk, hkL, hpos, hst3, hls3, rfl, hsm⟩ := hrel
        obtain ⟨adv, cv, rfl, _, _, _⟩ := id hls3
        have HP := Lib.hid hP; have HPO := Lib.hid hpos; have HST3 := Lib.hid hst3; have HLS3 := Lib.hid hls3; have HS3 := Lib.hid hsm
        have HMU := Lib.hid (stM2_eq hst3 hls3)
        obtain ⟨⟨c0, c1⟩, f0, f1⟩ := hst3.cells
        have hdM : d ≤ M := by omega
        clear hP hst3 hls3 hsm HST HLS HS
        by_cases hz0 : (t ++ catL l).size = 0
        · have hsz0 : t.size = 0 ∧ l = [] := by
            rw [ByteArray.size_append] at hz0
            refine ⟨by omega, ?_⟩
            cases l with
            | nil => rfl
            | cons x l =>
              have := hpos x List.mem_cons_self
              rw [catL, ByteArray.size_append] at hz0
              omega
          obtain ⟨ht0, hl0⟩ := hsz0
          obtain ⟨n1, n2⟩ := empty_is t ht0
          have hl1 : ¬ (0 : Int) < (l.length : Int) := by rw [hl0]; simp
          have HPD := Lib.hid (show d = M by rw [HP.out, pack_nil k hz0]; rfl)
          clear hz0 hl0 ht0 hk hpos
          go_wp2_with fail
          go_ret
          exact ⟨HS3.out, .inl ⟨HOK.out, by rw [← HM.out, ← HPD.out]; rfl⟩⟩
        · obtain ⟨k', rfl⟩ : ∃ k', k = k' + 1 := ⟨k - 1, by omega⟩
          have hpk := pack_next (k := k') hpos hz0
          obtain ⟨hn1, hn2, hn3⟩ := next_size t l hz0 hpos
          have hle : (t ++ catL l).size < 1099511627776 := by omega
          have HNX := Lib.hid (snext_any HST3.out HLS3.out hle)
          have hcond : t.size ≠ 0 ∨ (t.size = 0 ∧ l ≠ []) := by
            by_cases h : t.size = 0
            · refine .inr ⟨h, fun e => hz0 ?_⟩
              rw [e, ByteArray.size_append]; show t.size + 0 = 0; omega
            · exact .inl h
          have hP2 : M = d + 1 + (packG k' (nextG t l).2.1 (nextG t l).2.2).length := by
            rw [HP.out, hpk, List.length_cons]; omega
          have hdl2 : d < M := by omega
          have HPK2 := Lib.hid hP2
          have HN1 := Lib.hid (show ((nextG t l).2.1 ++ catL (nextG t l).2.2).size ≤ k' by omega)
          have HN3 := Lib.hid (fun x (hx : x ∈ (nextG t l).2.2) => hpos x (hn3 x hx))
          have HN0 := Lib.hid hn1
          unfold NextP at HNX
          generalize nextG t l = ng at *
          obtain ⟨⟨st, body⟩, t2, l2⟩ := ng
          simp only at HNX HPK2 HN1 HN3 HN0
          have hkL2 : k' ≤ (catL (xsL xs)).size := by omega
          clear hpk hn1 hn2 hn3 hle hpos hk hkL hP2
          rcases hcond with ht0 | ⟨ht0, hl0⟩
          · obtain ⟨n1, n2⟩ := nonempty t (by omega)
            clear hz0 ht0
            go_wp2_with fail
            (with_reducible refine HNX.out.mono ?_)
            rintro e w4 ⟨rfl, V4, hst4, hls4, hsm4⟩
            have HST4 := Lib.hid hst4; have HLS4 := Lib.hid hls4; have HSM4 := Lib.hid hsm4
            have HMU4 := Lib.hid (stM2_eq hst4 hls4)
            clear hst4 hls4 hsm4 c0 c1 f0 f1
            go_wp2_with fail
            go_roundw
            case rel => exact ⟨d + 1, k', t2, l2, V4, HPK2.out, HN1.out, hkL2, HN3.out, HST4.out, HLS4.out, by go_num, HS3.out.trans HSM4.out (fun x hx hlt => by simp at hx; have := HB.out; omega)⟩
            case measure => rw [HMU4.out, HMU.out]; exact HN0.out
          · obtain ⟨n1, n2⟩ := empty_is t ht0
            have hl1 : (0 : Int) < (l.length : Int) := by have := List.length_pos_iff.2 hl0; omega
            clear hz0 hl0 ht0
            go_wp2_with fail
            (with_reducible refine HNX.out.mono ?_)
            rintro e w4 ⟨rfl, V4, hst4, hls4, hsm4⟩
            have HST4 := Lib.hid hst4; have HLS4 := Lib.hid hls4; have HSM4 := Lib.hid hsm4
            have HMU4 := Lib.hid (stM2_eq hst4 hls4)
            clear hst4 hls4 hsm4 c0 c1 f0 f1
            go_wp2_with fail
            go_roundw
            case rel => exact ⟨d + 1, k', t2, l2, V4, HPK2.out, HN1.out, hkL2, HN3.out, HST4.out, HLS4.out, by go_num, HS3.out.trans HSM4.out (fun x hx hlt => by simp at hx; have := HB.out; omega)⟩
            case measure => rw [HMU4.out, HMU.out]; exact HN0.out

end Go.Proofs.YtpnbhgmcfooppaaDoor
