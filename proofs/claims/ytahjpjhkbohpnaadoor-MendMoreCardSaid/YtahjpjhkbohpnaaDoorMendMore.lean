/- The walk of the law MendMore: fewer places told, and their order. No condition. -/
import Derived.Test.YtahjpjhkbohpnaaDoorNr1
namespace Go.Proofs.YtahjpjhkbohpnaaDoor
open Go.RowKit
set_option linter.unusedSimpArgs false
set_option linter.unusedVariables false

set_option maxRecDepth 100000 in
set_option maxHeartbeats 16000000 in
theorem mendMore_any (s : ByteArray) (v : Value) (xs : List Int) (n : Int) (w : World) (hrr : NumsR w v xs) : Calls Tryd.prog 4 #[.string s, v, .int .i64 n] w (Ret (.bool true) w) := by
  have CA := Lib.hid (fun W => awake04_any W)
  have hr := hrr.1
  have HR := Lib.hid hr
  have HP := Lib.hid (fun W (h : NumsAt W v xs) => rplaces_any xs v W h)
  by_cases h : ¬ s.size ≤ 255 ∨ (s.size ≤ 255 ∧ ¬ xs.length ≤ 64) ∨ (s.size ≤ 255 ∧ xs.length ≤ 64 ∧ n < 0) ∨ (s.size ≤ 255 ∧ xs.length ≤ 64 ∧ ¬ n < 0 ∧ (xs.length : Int) < n)
  · obtain ⟨ad, cp, rfl, hlc, hcm, hcell⟩ := hr
    have hc : (255 : Int) < (s.size : Int) ∨ (¬ (255 : Int) < (s.size : Int) ∧ (64 : Int) < (xs.length : Int)) ∨ (¬ (255 : Int) < (s.size : Int) ∧ ¬ (64 : Int) < (xs.length : Int) ∧ n < 0) ∨ (¬ (255 : Int) < (s.size : Int) ∧ ¬ (64 : Int) < (xs.length : Int) ∧ ¬ n < 0 ∧ (xs.length : Int) < n) := by omega
    clear h hcell hrr
    rcases hc with h1 | ⟨h1, h2⟩ | ⟨h1, h2, h3⟩ | ⟨h1, h2, h3, h4⟩
    all_goals
      go_enter Tryd.func4, Tryd.ntmps4
      go_wp2_with fail
      (with_reducible refine (CA.out _).mono ?_)
      rintro e w8 ⟨rfl, s8⟩
      go_wp2_with fail
      go_ret
      exact ⟨rfl, s8⟩
  · have h1 : s.size ≤ 255 := by omega
    have h3 : xs.length ≤ 64 := by omega
    obtain ⟨m, rfl⟩ : ∃ m : Nat, n = (m : Int) := ⟨n.toNat, by omega⟩
    have hmx : m ≤ xs.length := by omega
    have h1i : ¬ (255 : Int) < (s.size : Int) := by omega
    have h3i : ¬ (64 : Int) < (xs.length : Int) := by omega
    have h4i : ¬ (xs.length : Int) < (m : Int) := by omega
    by_cases hg : GoodP xs
    · rw [decide_eq_true hg] at HP
      obtain ⟨T, hT⟩ : ∃ T, T = fullS s 255 := ⟨_, rfl⟩
      have hTs : T.size = 255 := by rw [hT, fullS_size]
      have C1 := Lib.hid (fun W => by have h9 := full255 s W (by omega); rw [← hT] at h9; exact h9)
      have HW := Lib.hid (fun W (h : NumsAt W v xs) => mword_any T xs v W (by omega) h (by omega))
      have HW2 := Lib.hid (fun W u (h : NumsAt W u xs.reverse) => by have h9 := mword_any T xs.reverse u W (by omega) h (by rw [List.length_reverse]; omega); rw [ans_perm (List.reverse_perm xs)] at h9; exact h9)
      have HW3 := Lib.hid (fun W u (h : NumsAt W u (xs.take m)) => mword_any T (xs.take m) u W (by omega) h (by rw [List.length_take]; omega))
      obtain ⟨Y, hY⟩ : ∃ Y, Y = ansW T (xs.take m) := ⟨_, rfl⟩
      obtain ⟨Z, hZ⟩ : ∃ Z, Z = ansW T xs := ⟨_, rfl⟩
      have hfew : Z.2.2 = 0 → (∀ x ∈ xs.drop m, x ∉ Z.2.1) → Y = Z := fun h0 hx => by
        rw [hY]
        have := ans_fewer (t := T) (w := Z.1) (at_ := Z.2.1) hmx (by rw [← hZ, ← h0]) hx
        rw [this, ← h0]
      rw [← hZ] at HW HW2
      rw [← hY] at HW3
      obtain ⟨a, l, c⟩ := Z
      obtain ⟨a2, l2, c2⟩ := Y
      have HFEW := Lib.hid hfew
      have HWa := Lib.hid (show ∀ W, NumsAt W v xs → Calls _ _ _ W (fun e w' => ∃ u, e = .returned (.tuple #[.string a, u, .int .i64 c]) ∧ NumsAt w' u l ∧ Same [] W w') from HW.out)
      have HWb := Lib.hid (show ∀ W u, NumsAt W u xs.reverse → Calls _ _ _ W (fun e w' => ∃ u, e = .returned (.tuple #[.string a, u, .int .i64 c]) ∧ NumsAt w' u l ∧ Same [] W w') from HW2.out)
      have HWc := Lib.hid (show ∀ W u, NumsAt W u (xs.take m) → Calls _ _ _ W (fun e w' => ∃ u, e = .returned (.tuple #[.string a2, u, .int .i64 c2]) ∧ NumsAt w' u l2 ∧ Same [] W w') from HW3.out)
      obtain ⟨ad, cp, rfl, hsl, hfr⟩ := nums_front hrr hmx
      have HFR := Lib.hid hfr
      have hcell : ∀ (i : Nat) (h : i < xs.length), ∃ a : Addr, ad = some a ∧ a.spot = none ∧ w.cell? ⟨a.block, a.off + i, none⟩ = some (.int .i64 xs[i]) := by
        obtain ⟨ad', cp', e0, _, _, h9⟩ := hr
        injection e0 with e1 e2 e3
        subst e1
        exact h9
      have HCELL := Lib.hid hcell
      obtain ⟨i0, hi, hz0, hz1, hz2⟩ := info_parts Tryd.infoI
      obtain ⟨B, hB⟩ : ∃ B, B = w.heap.size := ⟨_, rfl⟩
      have HB := Lib.hid hB
      obtain ⟨FV, hFV⟩ : ∃ FV, FV = sliced ad 0 m cp 1 := ⟨_, rfl⟩
      rw [← hFV] at hsl HFR
      have haa : (a.toList == a.toList) = true := by simp
      have han : (a.toList != a.toList) = false := by simp
      have hcc : (c == c) = true := by simp
      have hcn : (c != c) = false := by simp
      clear h hcell hr hrr hT hTs hY hZ hfew HW HW2 HW3 hfr hB hFV hg h1
      go_enter Tryd.func4, Tryd.ntmps4
      go_wp2_with fail
      (with_reducible refine (HP.out _ HR.out).mono ?_)
      rintro e w0 ⟨rfl, s0⟩
      have S0 := Lib.hid s0
      clear s0
      go_wp2_with fail
      (with_reducible refine (C1.out _).mono ?_)
      rintro e w1 ⟨rfl, s1⟩
      have S1 := Lib.hid (S0.out.trans_nil s1)
      clear s1
      go_wp2_with fail
      go_loopw [9, 8] (fun i bv wr => ∃ k : Nat, k ≤ xs.length ∧ i = .int .i64 ((k : Int) - 1) ∧ OwnI B wr bv (xs.drop k).reverse ∧ Same [] w wr) (fun i _ _ => (intOf i + 1).toNat)
      case atStart => exact ⟨xs.length, Nat.le_refl _, rfl, by rw [List.drop_length]; exact OwnI.nil _ _, S1.out⟩
      case round =>
        obtain ⟨k, hk, rfl, ho, hsm⟩ := hrel
        have HO := Lib.hid ho; have HSM := Lib.hid hsm
        clear ho hsm
        by_cases h5 : 0 < k
        · obtain ⟨j, rfl⟩ : ∃ j, k = j + 1 := ⟨k - 1, by omega⟩
          have hji : ((j + 1 : Nat) : Int) - 1 = (j : Int) := by omega
          rw [hji]
          have hjx : j < xs.length := by omega
          have hjxi : (j : Int) < (xs.length : Int) := by omega
          obtain ⟨ad', rfl, hsp, c0⟩ := HCELL.out j hjx
          obtain ⟨g, o, sp⟩ := ad'
          simp only at hsp c0
          subst hsp
          have hdr : (xs.drop j).reverse = (xs.drop (j + 1)).reverse ++ [xs[j]] := by rw [List.drop_eq_getElem_cons hjx, List.reverse_cons]
          obtain ⟨x, hx⟩ : ∃ x, x = xs[j] := ⟨_, rfl⟩
          rw [← hx] at c0 hdr
          have d0 := HSM.out.cell c0 (by simp)
          obtain ⟨M, hM⟩ : ∃ M, M = (xs.drop (j + 1)).reverse := ⟨_, rfl⟩
          have hMl : M.length ≤ 64 := by rw [hM, List.length_reverse, List.length_drop]; omega
          rw [← hM] at HO hdr
          have HDR := Lib.hid hdr
          have m1 : M.length + 1 ≤ maxLen := by unfold maxLen; omega
          have n1 : (M.length + 1) * 8 ≤ 140737488355328 := by omega
          have hbase : B ≤ (wr.alloc (.cells #[.int .i64 x] 3)).heap.size := by rw [World.size_alloc, HB.out]; exact Nat.le_succ_of_le HSM.out.size
          clear c0 hx hM hdr hji
          go_wp2_with (at_builtin; refine wpList_append_src rfl (.tmp 53) (.tmp 58) 22 rfl B 3 i0 (.int .i64 0) 1 8 Tryd.underlying22 hi hz0 hz1 hz2 rfl (by decide) _ M.length _ rfl (HO.out.alloc _) _ 1 _ rfl (readsI_one wr x) (one_il [x]) m1 n1 hbase ?_; intro v2 w7 hown hgrow hat; have HOWN := Lib.hid hown; have HGW := Lib.hid hgrow; clear hown hgrow hat)
          obtain ⟨q1, q2⟩ := OwnI.grow (HO.out.alloc _) (by have := HB.out; omega) (HSM.out.alloc _) HOWN.out HGW.out
          go_roundw
          case rel => exact ⟨j, by omega, rfl, by rw [HDR.out]; exact q1, q2⟩
          case measure => first | (simp [intOf]; done) | (simp [intOf]; omega)
        · obtain rfl : k = 0 := by omega
          have h5i : ((0 : Nat) : Int) - 1 = -1 := rfl
          rw [h5i]
          have hnum := HO.out.nums
          rw [List.drop_zero] at hnum
          have HN := Lib.hid hnum
          clear hnum h5 h5i HO
          go_wp2_with fail
          (with_reducible refine (HWa.out _ (HR.out.same HSM.out)).mono ?_)
          rintro e w2 ⟨u, rfl, hn, s2⟩
          have S2 := Lib.hid (HSM.out.trans_nil s2)
          have HU := Lib.hid hn; have HN2 := Lib.hid (HN.out.same s2)
          clear hn s2
          go_wp2_with fail
          (with_reducible refine (HWb.out _ _ HN2.out).mono ?_)
          rintro e w3 ⟨u3, rfl, hn, s3⟩
          have S3 := Lib.hid (S2.out.trans_nil s3)
          have HU3 := Lib.hid hn; have HU2 := Lib.hid (HU.out.same s3)
          clear hn s3
          go_wp2_with fail
          (with_reducible refine (HWc.out _ _ (HFR.out _ S3.out)).mono ?_)
          rintro e w4 ⟨u4, rfl, hn, s4⟩
          have S4 := Lib.hid (S3.out.trans_nil s4)
          have HU33 := Lib.hid (HU3.out.same s4); have HU22 := Lib.hid (HU2.out.same s4)
          clear hn s4
          go_wp2_with fail
          (with_reducible refine (ints_any l l _ _ _ HU22.out HU33.out).mono ?_)
          rintro e w5 ⟨rfl, s5⟩
          have S5 := Lib.hid (S4.out.trans_nil s5)
          have HUU := Lib.hid (HU22.out.same s5)
          have hll : decide (l = l) = true := decide_eq_true rfl
          rw [hll]
          clear s5
          go_wp2_with fail
          go_loopw [19] (fun i wr => ∃ k : Nat, m ≤ k ∧ k ≤ xs.length ∧ i = .int .i64 k ∧ (∀ x ∈ (xs.take k).drop m, x ∉ l) ∧ Same [] w wr ∧ Same [] w5 wr) (fun i _ => xs.length - (intOf i).toNat)
          case atStart => exact ⟨m, Nat.le_refl _, hmx, rfl, fun x hx => by rw [List.drop_of_length_le (by rw [List.length_take]; omega)] at hx; simp at hx, S5.out, Same.refl _ _⟩
          case round =>
            obtain ⟨k, hk0, hk, rfl, hno, hs1, hs2⟩ := hrel
            have HNO := Lib.hid hno; have HS1 := Lib.hid hs1; have HS2 := Lib.hid hs2
            clear hno hs1 hs2
            by_cases h6 : k < xs.length
            · have h6i : (k : Int) < (xs.length : Int) := by omega
              obtain ⟨ad', rfl, hsp, c0⟩ := HCELL.out k h6
              obtain ⟨g, o, sp⟩ := ad'
              simp only at hsp c0
              subst hsp
              obtain ⟨x, hx⟩ : ∃ x, x = xs[k] := ⟨_, rfl⟩
              rw [← hx] at c0
              have d0 := HS1.out.cell c0 (by simp)
              have HX := Lib.hid hx
              obtain ⟨q, hq⟩ : ∃ q, q = decide (x ∈ l) := ⟨_, rfl⟩
              have HQ := Lib.hid hq
              have HIN := Lib.hid (fun W u (h : NumsAt W u l) => by have h9 := rin_any l u x W h; rw [← hq] at h9; exact h9)
              clear c0 hx hq
              go_wp2_with fail
              (with_reducible refine (HIN.out _ _ (HUU.out.same HS2.out)).mono ?_)
              rintro e w' ⟨rfl, rfl⟩
              cases q with
              | true =>
                go_wp2_with fail
                (with_reducible refine (CA.out _).mono ?_)
                rintro e w9 ⟨rfl, s9⟩
                have S9 := Lib.hid (HS1.out.trans_nil s9)
                clear s9
                go_wp2_with fail
                go_ret
                exact ⟨rfl, S9.out⟩
              | false =>
                have hnx : ∀ y ∈ (xs.take (k + 1)).drop m, y ∉ l := fun y hy => by
                  rw [List.take_succ_eq_append_getElem h6, List.drop_append_of_le_length (by rw [List.length_take]; omega)] at hy
                  rcases List.mem_append.1 hy with hy | hy
                  · exact HNO.out y hy
                  · rw [List.mem_singleton] at hy
                    rw [hy, ← HX.out]
                    exact of_decide_eq_false HQ.out.symm
                have HNX := Lib.hid hnx
                clear hnx
                go_wp2_with fail
                go_roundw
                case rel => exact ⟨k + 1, by omega, by omega, by go_num, HNX.out, HS1.out, HS2.out⟩
                case measure => simp [intOf]; omega
            · obtain rfl : k = xs.length := by omega
              have h6i : ¬ (xs.length : Int) < (xs.length : Int) := by omega
              clear h6
              by_cases hc : c = 0
              · subst hc
                have hno := HNO.out
                rw [List.take_length] at hno
                have hyz := HFEW.out rfl hno
                injection hyz with e1 e2
                injection e2 with e3 e4
                subst e1 e4
                clear hno
                go_wp2_with fail
                (with_reducible refine (CA.out _).mono ?_)
                rintro e w9 ⟨rfl, s9⟩
                have S9 := Lib.hid (HS1.out.trans_nil s9)
                clear s9
                go_wp2_with fail
                go_ret
                exact ⟨rfl, S9.out⟩
              · have hci : (c == 0) = false := by simpa using hc
                have hcj : (c != 0) = true := by simpa using hc
                clear hc
                go_wp2_with fail
                (with_reducible refine (CA.out _).mono ?_)
                rintro e w9 ⟨rfl, s9⟩
                have S9 := Lib.hid (HS1.out.trans_nil s9)
                clear s9
                go_wp2_with fail
                go_ret
                exact ⟨rfl, S9.out⟩
    · rw [decide_eq_false hg] at HP
      obtain ⟨ad, cp, rfl, hlc, hcm, hcell⟩ := hr
      clear h hcell hrr hg h1
      go_enter Tryd.func4, Tryd.ntmps4
      go_wp2_with fail
      (with_reducible refine (HP.out _ HR.out).mono ?_)
      rintro e w0 ⟨rfl, s0⟩
      have S0 := Lib.hid s0
      clear s0
      go_wp2_with fail
      (with_reducible refine (CA.out _).mono ?_)
      rintro e w9 ⟨rfl, s9⟩
      have S9 := Lib.hid (S0.out.trans_nil s9)
      clear s9
      go_wp2_with fail
      go_ret
      exact ⟨rfl, S9.out⟩
end Go.Proofs.YtahjpjhkbohpnaaDoor
