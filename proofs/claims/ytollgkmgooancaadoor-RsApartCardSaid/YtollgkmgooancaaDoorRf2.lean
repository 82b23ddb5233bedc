/- The reference's polynomials: coefficients, sums, products. Condition: fewer than 2^39 bytes. -/
import Derived.Test.YtollgkmgooancaaDoorRf1
import Derived.Test.YtollgkmgooancaaDoorBy1
namespace Go.Proofs.YtollgkmgooancaaDoor
open Go.RowKit
set_option linter.unusedSimpArgs false
set_option linter.unusedVariables false

theorem radd_z (a b z : UInt8) (w : World) (hz : z = a ^^^ b) :
    Calls Tryd.prog 38 #[.int .u8 (a.toNat : Int), .int .u8 (b.toNat : Int)] w fun e w' => e = .returned (.int .u8 (z.toNat : Int)) ∧ w = w' := by rw [hz]; exact radd_any a b w
theorem coef_any (s : ByteArray) (n : Nat) (w : World) (hs : s.size < 549755813888) (hn : n < 1099511627776) :
    Calls Tryd.prog 48 #[.string s, .int .i64 (n : Int)] w fun e w' => e = .returned (.int .u8 ((cf (lb s) n).toNat : Int)) ∧ w = w' := by
  have h0 : ¬ (n : Int) < 0 := by omega
  by_cases h : n < s.size
  · have hb := bt_at s n h
    have h1 : ¬ (s.size : Int) ≤ (n : Int) := by omega
    go_enter Tryd.func48, Tryd.ntmps48
    go_wp2_with fail
    go_ret
    exact ⟨rfl, rfl⟩
  · have h1 : (s.size : Int) ≤ (n : Int) := by omega
    have hz : cf (lb s) n = 0 := cf_ge (by rw [lb_length]; omega)
    rw [hz]
    clear hz
    go_enter Tryd.func48, Tryd.ntmps48
    go_wp2_with fail
    go_ret
    exact ⟨rfl, rfl⟩

set_option maxRecDepth 100000 in
set_option maxHeartbeats 2000000 in
theorem rpadd_any (a b : ByteArray) (w : World) (ha : a.size < 549755813888) (hb : b.size < 549755813888) :
    Calls Tryd.prog 19 #[.string a, .string b] w (Ret (.string (addS a b)) w) := by
  obtain ⟨i0, hi, hz0, hz1, hz2⟩ := info_parts Tryd.infoB
  obtain ⟨B, hB⟩ : ∃ B, B = w.heap.size := ⟨_, rfl⟩
  obtain ⟨f, hf⟩ : ∃ f, f = pad (cf (lb a)) (cf (lb b)) := ⟨_, rfl⟩
  have HB := Lib.hid hB; have HF := Lib.hid hf
  clear hB hf
  go_enter Tryd.func19, Tryd.ntmps19
  go_wp2_with fail
  go_loopw [6, 5] (fun i v wr => ∃ k : Nat, (k ≤ a.size ∨ k ≤ b.size) ∧ i = .int .i64 k ∧ OwnB B wr v (ofF k f) ∧ Same [] w wr) (fun i _ _ => a.size + b.size - (intOf i).toNat)
  case atStart => exact ⟨0, .inl (Nat.zero_le _), rfl, OwnB.nil _ _, Same.refl _ _⟩
  case round =>
    obtain ⟨k, hk, rfl, ho, hs⟩ := hrel
    by_cases h1 : k < a.size ∨ k < b.size
    · obtain ⟨x, hx⟩ : ∃ x, x = cf (lb a) k ^^^ cf (lb b) k := ⟨_, rfl⟩
      have HA := Lib.hid (fun W => coef_any a k W (by omega) (by omega))
      have HC := Lib.hid (fun W => coef_any b k W (by omega) (by omega))
      have HR := Lib.hid (fun W => radd_z _ _ x W hx)
      have hfk : f k = x := by rw [HF.out, hx]; rfl
      have hd := ho.alloc (.cells #[.int .u8 (x.toNat : Int)] 5)
      have hsz := hs.size
      have hl := ofF_length k f
      have hl63 : (ofF k f).length + 1 ≤ maxLen := by rw [hl]; unfold maxLen; omega
      have hlen : ((ofF k f).length + 1) * 1 ≤ 140737488355328 := by rw [hl]; omega
      have hbase : B ≤ (wr.alloc (.cells #[.int .u8 (x.toNat : Int)] 5)).heap.size := by have := HB.out; simp; omega
      have HO := Lib.hid ho; have HS := Lib.hid hs; have HD := Lib.hid hd; have HX := Lib.hid hfk
      have hk2 : k < 549755813888 := by omega
      clear ho hs hd hl hk hx hfk
      have hor : ((k : Int) < (a.size : Int) ∧ (0 : Int) ≤ (k : Int)) ∨ (¬ (k : Int) < (a.size : Int) ∧ (k : Int) < (b.size : Int)) := by omega
      rcases hor with ⟨h2i, h3i⟩ | ⟨h2i, h3i⟩
      all_goals
        have H1 := Lib.hid h1
        clear h1
        go_wp2_with fail
        (with_reducible refine (HA.out _).mono ?_)
        rintro e w' ⟨rfl, rfl⟩
        go_wp2_with fail
        (with_reducible refine (HC.out _).mono ?_)
        rintro e w' ⟨rfl, rfl⟩
        go_wp2_with fail
        (with_reducible refine (HR.out _).mono ?_)
        rintro e w' ⟨rfl, rfl⟩
        go_wp2_with (at_builtin; refine wpList_append_src rfl (.tmp 19) (.tmp 27) 39 rfl B 5 i0 (.int .u8 0) 1 1 Tryd.underlying39 hi hz0 hz1 hz2 rfl (by decide) _ (ofF k f).length _ rfl HD.out _ 1 _ rfl (reads_one wr _) (one_u8l _) hl63 hlen hbase ?_; intro v' w2 hown hgrow hat; have HOWN := Lib.hid hown; have HG := Lib.hid hgrow; clear hown hgrow hat)
        obtain ⟨q1, q2⟩ := OwnB.grow HD.out (by have := HB.out; omega) (HS.out.alloc _) HOWN.out HG.out
        go_roundw
        case rel => exact ⟨k + 1, by have := H1.out; omega, by go_num, by rw [ofF_succ, HX.out]; exact q1, q2⟩
        case measure => have := H1.out; simp [intOf]; omega
    · have h2i : ¬ (k : Int) < (a.size : Int) := by omega
      have h3i : ¬ (k : Int) < (b.size : Int) := by omega
      have hc : cf (ofF k f) = cf (addL (lb a) (lb b)) := by
        rw [cf_addL, ← HF.out]
        refine cf_ofF_eq fun j hj => ?_
        rw [HF.out]
        show cf (lb a) j ^^^ cf (lb b) j = 0
        rw [cf_ge (l := lb a) (by rw [lb_length]; omega), cf_ge (l := lb b) (by rw [lb_length]; omega)]; rfl
      have hsz : (bs (ofF k f)).size ≤ 9223372036854775807 := by rw [size_bs, ofF_length]; omega
      have ht : trimS (bs (ofF k f)) = addS a b := by unfold trimS addS; rw [lb_bs, trim_ext hc]
      have HT := Lib.hid ht
      have HTR := Lib.hid (fun W => rtrim_any (bs (ofF k f)) W hsz)
      have hcv := ho.str
      have HS := Lib.hid hs
      clear ho hs hc ht h1 hk hsz
      go_wp2_with fail
      (with_reducible refine (HTR.out _).mono ?_)
      rintro e w' ⟨rfl, rfl⟩
      go_wp2_with fail
      go_ret
      exact ⟨by rw [← HT.out]; rfl, HS.out⟩
end Go.Proofs.YtollgkmgooancaaDoor
