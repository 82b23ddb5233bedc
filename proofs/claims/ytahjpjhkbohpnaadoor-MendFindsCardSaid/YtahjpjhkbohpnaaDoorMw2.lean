/- mend.Locator. Condition: up to 1000 places. -/
import Derived.Test.YtahjpjhkbohpnaaDoorMw1
import Derived.Test.YtahjpjhkbohpnaaDoorMe5
import Derived.Deep.RegionLaw
namespace Go.Proofs.YtahjpjhkbohpnaaDoor
open Go.RowKit
set_option linter.unusedSimpArgs false
set_option linter.unusedVariables false

theorem snocI {α : Type} {p : List α → Prop} (l : List α) (h0 : p []) (hs : ∀ l c, p l → p (l ++ [c])) : p l := by
  have h : ∀ l : List α, p l.reverse := fun l => by
    induction l with
    | nil => exact h0
    | cons c l ih => rw [List.reverse_cons]; exact hs _ _ ih
  have := h l.reverse
  rwa [List.reverse_reverse] at this
def xOf (n : Int) : UInt8 := ex (254 - n.toNat)
def linS (n : Int) : ByteArray := bs [1, xOf n]
def locS (xs : List Int) : ByteArray := xs.foldl (fun p n => mulS p (linS n)) (bs [1])
theorem locS_snoc (xs : List Int) (n : Int) : locS (xs ++ [n]) = mulS (locS xs) (linS n) := by unfold locS; rw [List.foldl_append]; rfl
theorem linS_size (n : Int) : (linS n).size = 2 := by unfold linS; rw [size_bs]; rfl
theorem locS_size (xs : List Int) : (locS xs).size ≤ 1 + 2 * xs.length := by
  induction xs using snocI with
  | h0 => exact Nat.le_refl _
  | hs l c ih =>
    rw [locS_snoc, List.length_append]
    have := mulS_size (locS l) (linS c)
    rw [linS_size] at this
    simp only [List.length_singleton]; omega
theorem cf_locS (xs : List Int) : cf (lb (locS xs)) = cf (prodP (xs.map xOf)) := by
  induction xs using snocI with
  | h0 => unfold locS; rw [List.foldl_nil, lb_bs]; rfl
  | hs l c ih =>
    rw [locS_snoc, cf_mulS, List.map_append, prodP_app, mulL_cf ih]
    unfold linS
    rw [lb_bs, show [c].map xOf = [xOf c] from rfl, cf_prodP, show prodP [] = [1] from rfl, mulL_comm [1, xOf c] [1], mulL_single, scl_one]
theorem conv_two (x : UInt8) {W w2 : World} (hs : Same [] (W.alloc (.cells #[.int .u8 1, .int .u8 (x.toNat : Int)] 5)) w2) : (convert 38 9 (.slice (some ⟨W.heap.size, 0, none⟩) 2 2)).run Tryd.prog w2 = .ok (.string (bs [1, x])) w2 := by
  have h : (W.alloc (.cells #[.int .u8 1, .int .u8 (x.toNat : Int)] 5)).ownsRow 0 5 1 (.slice (some ⟨W.heap.size, 0, none⟩) 2 2) 2 (u8l [1, x]) := row_new W #[.int .u8 1, .int .u8 (x.toNat : Int)] 5 2 rfl (by decide)
  exact OwnB.str (B := 0) (l := [1, x]) (by unfold OwnB; exact own_same h hs (fun _ _ => by simp))
set_option maxRecDepth 100000 in
theorem loc_bad (xs : List Int) (v : Value) (w : World) (hr : NumsAt w v xs) (hg : ¬ GoodP xs) : Calls Tryd.prog 10 #[v] w (Ret (.tuple #[.string ⟨#[]⟩, .int .i64 1]) w) := by
  have hq := decide_eq_false hg
  have HC := Lib.hid (by have h9 := places_any xs v w hr; rw [hq] at h9; exact h9)
  clear hq hg hr
  go_enter Tryd.func10, Tryd.ntmps10
  go_wp2_with fail
  (with_reducible refine HC.out.mono ?_)
  rintro e w1 ⟨rfl, s1⟩
  have HS := Lib.hid s1
  clear s1
  go_wp2_with fail
  go_ret2
  exact ⟨rfl, HS.out⟩
set_option maxRecDepth 100000 in
set_option maxHeartbeats 4000000 in
theorem loc_ok (xs : List Int) (v : Value) (w : World) (hr : NumsAt w v xs) (hg : GoodP xs) (hl : xs.length ≤ 1000) : Calls Tryd.prog 10 #[v] w (Ret (.tuple #[.string (locS xs), .int .i64 0]) w) := by
  have hq := decide_eq_true hg
  have HC := Lib.hid (by have h9 := places_any xs v w hr; rw [hq] at h9; exact h9)
  obtain ⟨ad, cp, rfl, hlc, hcm, hcell⟩ := hr
  have HCELL := Lib.hid hcell; have HGP := Lib.hid hg
  clear hcell hg hq
  go_enter Tryd.func10, Tryd.ntmps10
  go_wp2_with fail
  (with_reducible refine HC.out.mono ?_)
  rintro e w1 ⟨rfl, s1⟩
  have HS := Lib.hid s1
  clear s1
  go_wp2_with fail
  (with_reducible refine (new_any _).mono ?_)
  rintro e w2 ⟨rfl, f2, s2⟩
  obtain ⟨B, hB⟩ : ∃ B, B = w1.heap.size := ⟨_, rfl⟩
  rw [← hB] at f2 ⊢
  have HF := Lib.hid f2; have HS2 := Lib.hid (HS.out.trans_nil s2)
  clear f2 s2 hB
  go_wp2_with fail
  go_loopw [14, 5] (fun i pv wr => ∃ k : Nat, k ≤ xs.length ∧ i = .int .i64 k ∧ pv = .string (locS (xs.take k)) ∧ FieldAt wr B ∧ Same [] w wr) (fun i _ _ => xs.length - (intOf i).toNat)
  case atStart => exact ⟨0, Nat.zero_le _, rfl, rfl, HF.out, HS2.out⟩
  case round =>
    obtain ⟨k, hk, rfl, rfl, hf, hsm⟩ := hrel
    have HFR := Lib.hid hf; have HSR := Lib.hid hsm
    by_cases h1 : k < xs.length
    · have h1i : (k : Int) < (xs.length : Int) := by omega
      obtain ⟨ad', rfl, hsp, c0⟩ := HCELL.out k h1
      obtain ⟨g, o, sp⟩ := ad'
      simp only at hsp c0
      subst hsp
      have hgx := HGP.out.1 _ (List.getElem_mem h1)
      obtain ⟨n, hn⟩ : ∃ n : Nat, xs[k] = (n : Int) := ⟨xs[k].toNat, by omega⟩
      obtain ⟨m, hm⟩ : ∃ m : Nat, m = 254 - n := ⟨_, rfl⟩
      rw [hn] at c0 hgx
      have hmi : (254 : Int) - (n : Int) = (m : Int) := by omega
      have d0 := HSR.out.cell c0 (by simp)
      obtain ⟨x, hx⟩ : ∃ x, x = xOf (n : Int) := ⟨_, rfl⟩
      have hxm : ex m = x := by rw [hx, hm]; rfl
      have HE := Lib.hid (by have h9 := fexp_any B m wr hf (by omega); rw [hxm] at h9; exact h9)
      obtain ⟨P, hP⟩ : ∃ P, P = locS (xs.take k) := ⟨_, rfl⟩
      have hPs : P.size ≤ 3000 := by
        have := locS_size (xs.take k)
        rw [hP]; rw [List.length_take] at this; omega
      have hnext : locS (xs.take (k + 1)) = mulS P (bs [1, x]) := by rw [List.take_succ_eq_append_getElem h1, locS_snoc, ← hP, hn, hx]; rfl
      have HN := Lib.hid hnext
      have HM := Lib.hid (fun W => pmul_any P (bs [1, x]) W (by omega) (by rw [size_bs]; show 2 < 274877906944; decide))
      have b1 := fun W => conv_two x (Same.refl [] (World.alloc W (.cells #[.int .u8 1, .int .u8 (x.toNat : Int)] 5)))
      rw [← hP]
      clear c0 hf hsm hgx hn hm hx hxm hP hnext
      go_wp2_with fail
      (with_reducible refine HE.out.mono ?_)
      rintro e w' ⟨rfl, rfl⟩
      go_wp2_with fail
      (with_reducible refine (HM.out _).mono ?_)
      rintro e w4 ⟨rfl, s4⟩
      have s5 : Same [] wr w4 := ((Same.refl [] wr).alloc _).trans_nil s4
      have HF4 := Lib.hid (HFR.out.same s5 (by simp)); have HS4 := Lib.hid (HSR.out.trans_nil s5)
      clear s4 s5
      go_wp2_with fail
      go_roundw
      case rel => exact ⟨k + 1, by omega, by go_num, by rw [HN.out], HF4.out, HS4.out⟩
      case measure => simp [intOf]; omega
    · obtain rfl : k = xs.length := by omega
      have h1i : ¬ (xs.length : Int) < (xs.length : Int) := by omega
      clear hf hsm h1
      rw [List.take_length]
      go_wp2_with fail
      go_ret2
      exact ⟨rfl, HSR.out⟩
end Go.Proofs.YtahjpjhkbohpnaaDoor
