/- mend.Locator. Condition: up to 1000 places. mend.scaled. Condition: the reach of strings. clarionref04: Room, In. No condition. -/
import Derived.Test.YtpkpfebhdgbgbaaGreatDoorTMw1
import Derived.Test.YtpkpfebhdgbgbaaGreatDoorMp1
import Derived.Deep.RegionLaw
namespace Go.Proofs.YtpkpfebhdgbgbaaGreatDoor
open Go.RowKit
set_option linter.unusedSimpArgs false
set_option linter.unusedVariables false

theorem snocI {α : Type} {p : List α → Prop} (l : List α) (h0 : p []) (hs : ∀ l c, p l → p (l ++ [c])) : p l := by
  have h : ∀ l : List α, p l.reverse := fun l => by
    induction l with
    | nil => exact h0
    | cons c l ih => rw [List.reverse_cons]; exact hs _ _ ih
  have := h l.reverse
  rwa [List.reverse_reverse] at this
def xOf (n : Int) : UInt8 := ex (254 - n.toNat)
def linS (n : Int) : ByteArray := bs [1, xOf n]
def locS (xs : List Int) : ByteArray := xs.foldl (fun p n => mulS p (linS n)) (bs [1])
theorem locS_snoc (xs : List Int) (n : Int) : locS (xs ++ [n]) = mulS (locS xs) (linS n) := by unfold locS; rw [List.foldl_append]; rfl
theorem linS_size (n : Int) : (linS n).size = 2 := by unfold linS; rw [size_bs]; rfl
theorem locS_size (xs : List Int) : (locS xs).size ≤ 1 + 2 * xs.length := by
  induction xs using snocI with
  | h0 => exact Nat.le_refl _
  | hs l c ih =>
    rw [locS_snoc, List.length_append]
    have := mulS_size (locS l) (linS c)
    rw [linS_size] at this
    simp only [List.length_singleton]; omega
theorem cf_locS (xs : List Int) : cf (lb (locS xs)) = cf (prodP (xs.map xOf)) := by
  induction xs using snocI with
  | h0 => unfold locS; rw [List.foldl_nil, lb_bs]; rfl
  | hs l c ih =>
    rw [locS_snoc, cf_mulS, List.map_append, prodP_app, mulL_cf ih]
    unfold linS
    rw [lb_bs, show [c].map xOf = [xOf c] from rfl, cf_prodP, show prodP [] = [1] from rfl, mulL_comm [1, xOf c] [1], mulL_single, scl_one]
theorem conv_two (x : UInt8) {W w2 : World} (hs : Same [] (W.alloc (.cells #[.int .u8 1, .int .u8 (x.toNat : Int)] 5)) w2) : (convert 33 9 (.slice (some ⟨W.heap.size, 0, none⟩) 2 2)).run Tryz.prog w2 = .ok (.string (bs [1, x])) w2 := by
  have h : (W.alloc (.cells #[.int .u8 1, .int .u8 (x.toNat : Int)] 5)).ownsRow 0 5 1 (.slice (some ⟨W.heap.size, 0, none⟩) 2 2) 2 (u8l [1, x]) := row_new W #[.int .u8 1, .int .u8 (x.toNat : Int)] 5 2 rfl (by decide)
  exact OwnB.str (B := 0) (l := [1, x]) (by unfold OwnB; exact own_same h hs (fun _ _ => by simp))
set_option maxRecDepth 100000 in
theorem loc_bad (xs : List Int) (v : Value) (w : World) (hr : NumsAt w v xs) (hg : ¬ GoodP xs) : Calls Tryz.prog 84 #[v] w (Ret (.tuple #[.string ⟨#[]⟩, .int .i64 1]) w) := by
  have hq := decide_eq_false hg
  have HC := Lib.hid (by have h9 := places_any xs v w hr; rw [hq] at h9; exact h9)
  clear hq hg hr
  go_enter Tryz.func84, Tryz.ntmps84
  go_wp2_with fail
  (with_reducible refine HC.out.mono ?_)
  rintro e w1 ⟨rfl, s1⟩
  have HS := Lib.hid s1
  clear s1
  go_wp2_with fail
  go_ret2
  exact ⟨rfl, HS.out⟩
set_option maxRecDepth 100000 in
set_option maxHeartbeats 4000000 in
theorem loc_ok (xs : List Int) (v : Value) (w : World) (hr : NumsAt w v xs) (hg : GoodP xs) (hl : xs.length ≤ 1000) : Calls Tryz.prog 84 #[v] w (Ret (.tuple #[.string (locS xs), .int .i64 0]) w) := by
  have hq := decide_eq_true hg
  have HC := Lib.hid (by have h9 := places_any xs v w hr; rw [hq] at h9; exact h9)
  obtain ⟨ad, cp, rfl, hlc, hcm, hcell⟩ := hr
  have HCELL := Lib.hid hcell; have HGP := Lib.hid hg
  clear hcell hg hq
  go_enter Tryz.func84, Tryz.ntmps84
  go_wp2_with fail
  (with_reducible refine HC.out.mono ?_)
  rintro e w1 ⟨rfl, s1⟩
  have HS := Lib.hid s1
  clear s1
  go_wp2_with fail
  (with_reducible refine (new_any _).mono ?_)
  rintro e w2 ⟨rfl, f2, s2⟩
  obtain ⟨B, hB⟩ : ∃ B, B = w1.heap.size := ⟨_, rfl⟩
  rw [← hB] at f2 ⊢
  have HF := Lib.hid f2; have HS2 := Lib.hid (HS.out.trans_nil s2)
  clear f2 s2 hB
  go_wp2_with fail
  go_loopw [14, 5] (fun i pv wr => ∃ k : Nat, k ≤ xs.length ∧ i = .int .i64 k ∧ pv = .string (locS (xs.take k)) ∧ FieldAt wr B ∧ Same [] w wr) (fun i _ _ => xs.length - (intOf i).toNat)
  case atStart => exact ⟨0, Nat.zero_le _, rfl, rfl, HF.out, HS2.out⟩
  case round =>
    obtain ⟨k, hk, rfl, rfl, hf, hsm⟩ := hrel
    have HFR := Lib.hid hf; have HSR := Lib.hid hsm
    by_cases h1 : k < xs.length
    · have h1i : (k : Int) < (xs.length : Int) := by omega
      obtain ⟨ad', rfl, hsp, c0⟩ := HCELL.out k h1
      obtain ⟨g, o, sp⟩ := ad'
      simp only at hsp c0
      subst hsp
      have hgx := HGP.out.1 _ (List.getElem_mem h1)
      obtain ⟨n, hn⟩ : ∃ n : Nat, xs[k] = (n : Int) := ⟨xs[k].toNat, by omega⟩
      obtain ⟨m, hm⟩ : ∃ m : Nat, m = 254 - n := ⟨_, rfl⟩
      rw [hn] at c0 hgx
      have hmi : (254 : Int) - (n : Int) = (m : Int) := by omega
      have d0 := HSR.out.cell c0 (by simp)
      obtain ⟨x, hx⟩ : ∃ x, x = xOf (n : Int) := ⟨_, rfl⟩
      have hxm : ex m = x := by rw [hx, hm]; rfl
      have HE := Lib.hid (by have h9 := fexp_any B m wr hf (by omega); rw [hxm] at h9; exact h9)
      obtain ⟨P, hP⟩ : ∃ P, P = locS (xs.take k) := ⟨_, rfl⟩
      have hPs : P.size ≤ 3000 := by
        have := locS_size (xs.take k)
        rw [hP]; rw [List.length_take] at this; omega
      have hnext : locS (xs.take (k + 1)) = mulS P (bs [1, x]) := by rw [List.take_succ_eq_append_getElem h1, locS_snoc, ← hP, hn, hx]; rfl
      have HN := Lib.hid hnext
      have HM := Lib.hid (fun W => pmul_any P (bs [1, x]) W (by omega) (by rw [size_bs]; show 2 < 274877906944; decide))
      have b1 := fun W => conv_two x (Same.refl [] (World.alloc W (.cells #[.int .u8 1, .int .u8 (x.toNat : Int)] 5)))
      rw [← hP]
      clear c0 hf hsm hgx hn hm hx hxm hP hnext
      go_wp2_with fail
      (with_reducible refine HE.out.mono ?_)
      rintro e w' ⟨rfl, rfl⟩
      go_wp2_with fail
      (with_reducible refine (HM.out _).mono ?_)
      rintro e w4 ⟨rfl, s4⟩
      have s5 : Same [] wr w4 := ((Same.refl [] wr).alloc _).trans_nil s4
      have HF4 := Lib.hid (HFR.out.same s5 (by simp)); have HS4 := Lib.hid (HSR.out.trans_nil s5)
      clear s4 s5
      go_wp2_with fail
      go_roundw
      case rel => exact ⟨k + 1, by omega, by go_num, by rw [HN.out], HF4.out, HS4.out⟩
      case measure => simp [intOf]; omega
    · obtain rfl : k = xs.length := by omega
      have h1i : ¬ (xs.length : Int) < (xs.length : Int) := by omega
      clear hf hsm h1
      rw [List.take_length]
      go_wp2_with fail
      go_ret2
      exact ⟨rfl, HSR.out⟩
end Go.Proofs.YtpkpfebhdgbgbaaGreatDoor
namespace Go.Proofs.YtpkpfebhdgbgbaaGreatDoor
open Go.RowKit
set_option linter.unusedSimpArgs false
set_option linter.unusedVariables false

theorem make_cap (u c : Nat) (hu : u ≤ c) (hc : c < 549755813888) (w : World) :
    (Instr.makeSlice 33 (.int .i64 (u : Int)) (.int .i64 (c : Int))).run Tryz.prog w = .ok (.slice (some ⟨w.heap.size, 0, none⟩) u c) (w.alloc (.cells (madeCells #[.int .u8 0] c) 5)) := by
  obtain ⟨i0, hi, hz0, hz1, hz2⟩ := info_parts Tryz.infoB
  have hr := run_make (P := Tryz.prog) w 33 5 i0 (.int .u8 0) Tryz.underlying33 hi hz0 .i64 .i64 (u : Int) (c : Int) (by omega) (by omega) (by rw [hz2]; omega) (by omega)
  simp only [Int.toNat_natCast, hz1, Nat.mul_one] at hr
  exact hr
theorem own_cap {B u c : Nat} {w : World} (hu : u ≤ c) (hc : c < 549755813888) (hB : B ≤ w.heap.size) : OwnB B (w.alloc (.cells (madeCells #[.int .u8 0] c) 5)) (.slice (some ⟨w.heap.size, 0, none⟩) u c) (List.replicate u 0) := by
  have hl : (List.replicate u (0 : UInt8)).length = u := List.length_replicate
  unfold OwnB
  rw [hl]
  have hm : (madeCells #[.int .u8 0] c).toList = List.replicate c (.int .u8 0) := toList_madeCells_one _ _
  refine ⟨by rw [u8l_length, hl, Nat.mul_one], .inr ⟨w.heap.size, c, _, rfl, hB, heap_alloc_new w _, hu, by unfold maxLen; omega, ?_, ?_⟩⟩
  · rw [← Array.length_toList, hm, List.length_replicate, Nat.mul_one]
  · rw [hm, Nat.mul_one, List.take_replicate, Nat.min_eq_left hu, u8l, List.map_replicate]; rfl
def scalL (p : List UInt8) (x : UInt8) (up : Nat) : List UInt8 := List.replicate up 0 ++ sclL x p
def scalS (p : ByteArray) (x : UInt8) (up : Nat) : ByteArray := bs (scalL (lb p) x up)
theorem scalL_length (p : List UInt8) (x : UInt8) (up : Nat) : (scalL p x up).length = up + p.length := by unfold scalL sclL; rw [List.length_append, List.length_replicate, List.length_map]
theorem scalL_snoc (p : List UInt8) (x : UInt8) (up k : Nat) (h : k < p.length) : scalL (p.take (k + 1)) x up = scalL (p.take k) x up ++ [gm (cf p k) x] := by
  unfold scalL sclL
  rw [take_snoc p k h, List.map_append, ← List.append_assoc]; rfl
set_option maxRecDepth 100000 in
set_option maxHeartbeats 4000000 in
theorem scaled_any (g : Nat) (p : ByteArray) (x : UInt8) (up : Nat) (w : World) (hf : FieldAt w g) (hp : p.size < 100000000000) (hu : up < 100000000000) :
    Calls Tryz.prog 116 #[.pointer (some ⟨g, 0, none⟩), .string p, .int .u8 (x.toNat : Int), .int .i64 (up : Int)] w (Ret (.string (scalS p x up)) w) := by
  obtain ⟨i0, hi, hz0, hz1, hz2⟩ := info_parts Tryz.infoB
  obtain ⟨B, hB⟩ : ∃ B, B = w.heap.size := ⟨_, rfl⟩
  have HB := Lib.hid hB
  obtain ⟨c, hc⟩ : ∃ c, c = up + p.size := ⟨_, rfl⟩
  have hci : (up : Int) + (p.size : Int) = (c : Int) := by omega
  have hmk := make_cap up c (by omega) (by omega)
  have own0 := own_cap (B := B) (u := up) (c := c) (w := w) (by omega) (by omega) (by omega)
  have HO0 := Lib.hid own0; have HF := Lib.hid hf
  clear hB own0 hf hc
  go_enter Tryz.func116, Tryz.ntmps116
  go_wp2_with fail
  go_loopw [19, 9] (fun i v wr => ∃ k : Nat, k ≤ p.size ∧ i = .int .i64 k ∧ OwnB B wr v (scalL ((lb p).take k) x up) ∧ Same [] w wr) (fun i _ _ => p.size - (intOf i).toNat)
  case atStart => exact ⟨0, Nat.zero_le _, rfl, by rw [List.take_zero]; unfold scalL; rw [show sclL x [] = [] from rfl, List.append_nil]; exact HO0.out, (Same.refl [] w).alloc _⟩
  case round =>
    obtain ⟨k, hk, rfl, ho, hsm⟩ := hrel
    by_cases h1 : k < p.size
    · have h1i : (k : Int) < (p.size : Int) := by omega
      have hbt := bt_at p k h1
      obtain ⟨y, hy⟩ : ∃ y, y = cf (lb p) k := ⟨_, rfl⟩
      rw [← hy] at hbt
      obtain ⟨z, hz⟩ : ∃ z, z = gm y x := ⟨_, rfl⟩
      have hfr : FieldAt wr g := HF.out.same hsm (by simp)
      have HM := Lib.hid (fmul_any g y x wr hfr)
      rw [← hz] at HM
      have hsn := scalL_snoc (lb p) x up k (by rw [lb_length]; exact h1)
      rw [← hy, ← hz] at hsn
      obtain ⟨L, hL⟩ : ∃ L, L = scalL ((lb p).take k) x up := ⟨_, rfl⟩
      rw [← hL] at ho hsn
      have hl : L.length ≤ up + p.size := by rw [hL, scalL_length, List.length_take, lb_length]; omega
      have m1 : L.length + 1 ≤ maxLen := by unfold maxLen; omega
      have n1 : (L.length + 1) * 1 ≤ 140737488355328 := by omega
      have hbw : B ≤ wr.heap.size := by rw [HB.out]; exact hsm.size
      have HO := Lib.hid ho; have HS := Lib.hid hsm; have HSN := Lib.hid hsn
      clear ho hsm hsn hL hy hz hfr
      go_wp2_with fail
      (with_reducible refine HM.out.mono ?_)
      rintro e w' ⟨rfl, nd, rfl⟩
      have hd := (show OwnB B (wr.drewN nd) _ L from HO.out).alloc (.cells #[.int .u8 (z.toNat : Int)] 5)
      have hbase : B ≤ ((wr.drewN nd).alloc (.cells #[.int .u8 (z.toNat : Int)] 5)).heap.size := by rw [World.size_alloc]; exact Nat.le_succ_of_le hbw
      have HD := Lib.hid hd
      clear hd
      go_wp2_with (at_builtin; refine wpList_append_src rfl (.tmp 22) (.tmp 29) 33 rfl B 5 i0 (.int .u8 0) 1 1 Tryz.underlying33 hi hz0 hz1 hz2 rfl (by decide) _ L.length _ rfl HD.out _ 1 _ rfl (reads_one (wr.drewN nd) z) (one_u8l [z]) m1 n1 hbase ?_; intro v2 w5 hown hgrow hat; have HOWN := Lib.hid hown; have HGW := Lib.hid hgrow; clear hown hgrow hat)
      obtain ⟨q1, q2⟩ := OwnB.grow HD.out (by have := HB.out; omega) ((HS.out.drewN nd).alloc _) HOWN.out HGW.out
      go_roundw
      case rel => exact ⟨k + 1, by omega, by go_num, by rw [HSN.out]; exact q1, q2⟩
      case measure => simp [intOf]; omega
    · obtain rfl : k = p.size := by omega
      have h1i : ¬ (p.size : Int) < (p.size : Int) := by omega
      have hcv := ho.str
      rw [← lb_length p, List.take_length] at hcv
      have hc2 : bs (scalL (lb p) x up) = scalS p x up := rfl
      rw [hc2] at hcv
      have HS := Lib.hid hsm
      clear ho hsm h1 hc2
      go_wp2_with fail
      go_ret
      exact ⟨rfl, HS.out⟩
end Go.Proofs.YtpkpfebhdgbgbaaGreatDoor
namespace Go.Proofs.YtpkpfebhdgbgbaaGreatDoor
open Go.RowKit
set_option linter.unusedSimpArgs false
set_option linter.unusedVariables false

end Go.Proofs.YtpkpfebhdgbgbaaGreatDoor
