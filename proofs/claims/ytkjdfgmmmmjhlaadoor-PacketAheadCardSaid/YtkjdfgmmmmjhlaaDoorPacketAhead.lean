/- The walk of the law PacketAhead: whatever packets and bytes ahead, it answers true. Condition: the table 'widths' lies. (Printed by gen_packetahead.py.) -/
import Derived.Test.YtkjdfgmmmmjhlaaDoorFc3
import Derived.Test.YtkjdfgmmmmjhlaaDoorOpenPkts
namespace Go.Proofs.YtkjdfgmmmmjhlaaDoor
open Go.RowKit
set_option linter.unusedSimpArgs false
set_option linter.unusedVariables false

theorem enc_first (p : Int) (t : Bool) (c : Int) (b : Bool) (x : ByteArray) (h : chkG p c x = 0) : ∃ U : ByteArray, U.size = 188 ∧ byteOf U 0 = 71 ∧
    (∀ W, Tab W → Calls Tryd.prog 12 #[.agg #[.int .i64 p, .bool t, .int .i64 c, .bool b, .string x]] W (fun e w' => Same [] W w' ∧ e = .returned (.tuple #[.string U, .int .i64 0]))) := by
  obtain ⟨m, k, rfl, rfl, h1, h2, h3⟩ := chk_nat h
  exact ⟨encG m t k b x, size_enc _ _ _ _ _ h3, enc_b0 _ _ _ _ _ h3, fun W hT => encode_ok m t k b x W h1 h2 h3 hT⟩

set_option maxRecDepth 100000 in
set_option maxHeartbeats 8000000 in
theorem packetAhead_any (v : Value) (ps : List PkD) (s : ByteArray) (w : World) (hp : PktsAt w v ps) (ht : Tab w) :
    Calls Tryd.prog 5 #[v, .string s] w (Ret (.bool true) w) := by
  obtain ⟨ad, cp, rfl, hlc, hcm, hcell⟩ := hp
  have H := Lib.hid (Hold.start ht)
  have HC := Lib.hid hcell
  clear hcell ht
  by_cases hb : 6 < ps.length ∨ ps.length = 0 ∨ 187 < s.size
  · rcases Nat.lt_or_ge 6 ps.length with h1 | h1
    · have g1 : (6 : Int) < (ps.length : Int) := by omega
      go_enter Tryd.func5, Tryd.ntmps5
      go_wp2_with (go_at_call 9; (with_reducible refine (awake14_any _ (by exact H.out.tab)).mono ?_); rintro e w' ⟨rfl, hs⟩; have HA := Lib.hid hs; clear hs)
      go_ret
      exact ⟨rfl, H.out.sm.trans_nil HA.out⟩
    · have g1 : ¬ (6 : Int) < (ps.length : Int) := by omega
      by_cases h2 : ps.length = 0
      · have g2 : ((ps.length : Nat) : Int) = 0 := by omega
        go_enter Tryd.func5, Tryd.ntmps5
        go_wp2_with (go_at_call 9; (with_reducible refine (awake14_any _ (by exact H.out.tab)).mono ?_); rintro e w' ⟨rfl, hs⟩; have HA := Lib.hid hs; clear hs)
        go_ret
        exact ⟨rfl, H.out.sm.trans_nil HA.out⟩
      · have g2 : ¬ ((ps.length : Nat) : Int) = 0 := by omega
        have g3 : (187 : Int) < (s.size : Int) := by omega
        go_enter Tryd.func5, Tryd.ntmps5
        go_wp2_with (go_at_call 9; (with_reducible refine (awake14_any _ (by exact H.out.tab)).mono ?_); rintro e w' ⟨rfl, hs⟩; have HA := Lib.hid hs; clear hs)
        go_ret
        exact ⟨rfl, H.out.sm.trans_nil HA.out⟩
  · have g1 : ¬ (6 : Int) < (ps.length : Int) := by omega
    have g2 : ¬ ((ps.length : Nat) : Int) = 0 := by omega
    have g3 : ¬ (187 : Int) < (s.size : Int) := by omega
    obtain ⟨n, hn⟩ : ∃ n, ps.length = n := ⟨_, rfl⟩
    rw [hn] at g1 g2 hlc ⊢
    have hn1 : 1 ≤ n := by omega
    have hn6 : n ≤ 6 := by omega
    have hs187 : s.size ≤ 187 := by omega
    clear hb
    go_enter Tryd.func5, Tryd.ntmps5
    go_wp2_with fail
    go_loopw [6, 5] (fun i all wr => ∃ (k : Nat) (A : ByteArray), k ≤ n ∧ i = .int .i64 k ∧ all = .string A ∧ A.size = s.size + 188 * k ∧ (∀ j, j < k → byteOf A (s.size + 188 * j) = 71) ∧ Hold w wr []) (fun i _ _ => n - (intOf i).toNat)
    case atStart => exact ⟨0, s, Nat.zero_le _, rfl, rfl, by omega, fun j hj => by omega, H.out⟩
    case round =>
      obtain ⟨k, A, hk, rfl, rfl, hz, hby, hH⟩ := hrel
      have H := Lib.hid hH
      have HBY := Lib.hid hby
      clear hH hby
      by_cases hk1 : k < n
      · have hk2 : (k : Int) < (n : Int) := by omega
        obtain ⟨a, rfl, hsp, c0, c1, c2, c3, c4⟩ := HC.out k (by omega)
        obtain ⟨g, o, sp⟩ := a
        simp only at hsp c0 c1 c2 c3 c4
        subst hsp
        obtain ⟨pk, hpk⟩ : ∃ pk, pk = ps[k] := ⟨_, rfl⟩
        rw [← hpk] at c0 c1 c2 c3 c4
        clear hpk
        obtain ⟨p, t, c, b, x⟩ := pk
        simp only at c0 c1 c2 c3 c4
        have C0 := Lib.hid c0; have C1 := Lib.hid c1; have C2 := Lib.hid c2; have C3 := Lib.hid c3; have C4 := Lib.hid c4
        clear c0 c1 c2 c3 c4
        have c0 := H.out.sm.cell C0.out (by simp); have c1 := H.out.sm.cell C1.out (by simp); have c2 := H.out.sm.cell C2.out (by simp); have c3 := H.out.sm.cell C3.out (by simp); have c4 := H.out.sm.cell C4.out (by simp)
        go_wp2_with fail
        (with_reducible refine (plain14 p t c b x _).mono ?_)
        rintro e w2 ⟨rfl, s9⟩
        replace H := Lib.hid (H.out.step s9)
        clear s9
        go_wp2_with fail
        (with_reducible refine (rpcheck_any p t c b x _).mono ?_)
        rintro e w3 ⟨rfl, s9⟩
        replace H := Lib.hid (H.out.step s9)
        clear s9 c0 c1 c2 c3 c4
        by_cases hC : chkG p c x = 0
        · rw [hC]
          obtain ⟨U, hU, hU0, HE⟩ := enc_first p t c b x hC
          have HE := Lib.hid HE
          have c0 := H.out.sm.cell C0.out (by simp); have c1 := H.out.sm.cell C1.out (by simp); have c2 := H.out.sm.cell C2.out (by simp); have c3 := H.out.sm.cell C3.out (by simp); have c4 := H.out.sm.cell C4.out (by simp)
          have hsum : A.size + U.size ≤ 2000 := by omega
          go_wp2_with fail
          (with_reducible refine (HE.out _ H.out.tab).mono ?_)
          rintro e w4 ⟨s9, rfl⟩
          replace H := Lib.hid (H.out.step s9)
          clear s9 c0 c1 c2 c3 c4
          go_wp2_with fail
          go_roundw
          case rel =>
            refine ⟨k + 1, A ++ U, hk1, by go_num, rfl, by rw [ByteArray.size_append]; omega, fun j hj => ?_, H.out⟩
            by_cases h9 : j < k
            · rw [bl_left _ _ _ (by omega)]; exact HBY.out j h9
            · have h8 : j = k := by omega
              subst h8
              rw [bl_right _ _ _ (by omega), show s.size + 188 * j - A.size = 0 by omega]; exact hU0
          case measure => simp [intOf]; omega
        · obtain ⟨y, hy⟩ : ∃ y, chkG p c x = y := ⟨_, rfl⟩
          have hy0 : ¬ y = 0 := by omega
          rw [hy]
          clear hy hC
          go_wp2_with (go_at_call 9; (with_reducible refine (awake14_any _ (by exact H.out.tab)).mono ?_); rintro e w' ⟨rfl, hs⟩; have HA := Lib.hid hs; clear hs)
          go_ret
          exact ⟨rfl, H.out.sm.trans_nil HA.out⟩
      · obtain rfl : k = n := by omega
        have HR := Lib.hid (show RightS A s.size from fun i hi => HBY.out i (by omega))
        have HF := Lib.hid (fun W => find_any A W (by omega))
        clear hk1 HBY
        go_wp2_with fail
        (with_reducible refine (HF.out _).mono ?_)
        rintro e w4 ⟨s9, hf⟩
        replace H := Lib.hid (H.out.step s9)
        clear s9 HF
        rcases hf with ⟨q, hq1, hq2, hq3, hq4, rfl⟩ | ⟨hq1, _⟩
        · have hqs : q ≤ s.size := by
            by_cases h9 : q ≤ s.size
            · exact h9
            · exact absurd HR.out (hq4 _ (by omega))
          have HQ := Lib.hid hq3
          clear hq4 hq3
          have hqi : (q : Int) ≤ (s.size : Int) := by omega
          have hqi2 : (q : Int) ≤ (A.size : Int) := by omega
          have hqi3 : ¬ (s.size : Int) < (q : Int) := by omega
          have hzi : (A.size : Int) = (s.size : Int) + 188 * (k : Int) := by omega
          obtain ⟨t, ht⟩ : ∃ t, t = A.extract q A.size := ⟨_, rfl⟩
          have htz : t.size = A.size - q := by rw [ht, ByteArray.size_extract]; omega
          obtain ⟨rest, hrest⟩ : ∃ rest, rest = t.extract (188 * (t.size / 188)) t.size := ⟨_, rfl⟩
          have hrz : rest.size = t.size - 188 * (t.size / 188) := by rw [hrest, ByteArray.size_extract]; omega
          obtain ⟨hall, hr71⟩ := (right_iff A q (by omega) t rest ht hrest).1 HQ.out
          have hcut := fun W => cut_any t W (by omega)
          unfold CutPost at hcut
          rw [← hrest] at hcut
          obtain ⟨m, hm⟩ : ∃ m, t.size / 188 = m := ⟨_, rfl⟩
          rw [hm] at hcut hrz
          have hm1 : 1 ≤ m := by omega
          have HCUT := Lib.hid hcut; have HALL := Lib.hid hall; have HR71 := Lib.hid hr71
          clear hcut hall hr71 HQ HR hrest
          replace ht := ht.symm
          go_wp2_with fail
          rw [show A.extract q (s.size + 188 * k) = t by rw [← hz]; exact ht]
          (with_reducible refine (HCUT.out _).mono ?_)
          rintro e w5 ⟨v, rfl, hrd, s9⟩
          replace H := Lib.hid (H.out.step s9)
          clear s9 HCUT
          have hv : ∃ g o c, v = .slice (some ⟨g, o, none⟩) m c ∧ ∀ j, j < m → w5.cell? ⟨g, o + j, none⟩ = some (.string (piece t j)) := by
            rcases hrd.2 with ⟨a, c, rfl, hs, _, hc⟩ | ⟨_, h9⟩
            · obtain ⟨g, o, sp⟩ := a
              simp only at hs; subst hs
              refine ⟨g, o, c, rfl, fun j hj => ?_⟩
              have := hc j (.string (piece t j)) (by simp [strValP, pieces, hm, hj])
              rwa [addr_add] at this
            · omega
          obtain ⟨g, o, c, rfl, hc⟩ := hv
          have HCC := Lib.hid hc
          clear hrd hc
          go_wp2_with fail
          go_loopw [13] (fun i wr => ∃ j : Nat, j ≤ m ∧ i = .int .i64 j ∧ w5 = wr) (fun i _ => m - (intOf i).toNat)
          case atStart => exact ⟨0, Nat.zero_le _, rfl, rfl⟩
          case round =>
            obtain ⟨j, hj, rfl, rfl⟩ := hrel
            by_cases hlt : j < m
            · have ck := HCC.out j hlt
              have hx0 : byteOf (piece t j) 0 = 71 := HALL.out _ (by unfold pieces; rw [hm]; exact List.mem_map.2 ⟨j, List.mem_range.2 hlt, rfl⟩)
              have hxz : (piece t j).size = 188 := size_piece _ _ (by omega)
              generalize piece t j = X at ck hx0 hxz
              have hxi : (X.size : Int) = 188 := by omega
              have hxb := byteOf_at X 0 (by omega)
              rw [hx0] at hxb
              have hji : (j : Int) < (m : Int) := by omega
              clear hx0
              go_wp2_with fail
              go_roundw
              case rel => exact ⟨j + 1, hlt, by go_num, trivial⟩
              case measure => simp [intOf]; omega
            · obtain rfl : j = m := by omega
              by_cases h0 : rest.size = 0
              · have he : rest.toList.isEmpty = true := by rw [ByteArray.toList_eq, List.isEmpty_iff, ← List.length_eq_zero_iff, Array.length_toList]; exact h0
                by_cases hqe : q = s.size
                · have hqei : (q : Int) = (s.size : Int) := by omega
                  have hjk : j = k := by omega
                  subst hjk
                  go_wp2_with (go_at_call 9; (with_reducible refine (awake14_any _ (by exact H.out.tab)).mono ?_); rintro e w' ⟨rfl, hs⟩; have HA := Lib.hid hs; clear hs)
                  go_ret
                  exact ⟨rfl, H.out.sm.trans_nil HA.out⟩
                · have hqei : ¬ (q : Int) = (s.size : Int) := by omega
                  go_wp2_with (go_at_call 9; (with_reducible refine (awake14_any _ (by exact H.out.tab)).mono ?_); rintro e w' ⟨rfl, hs⟩; have HA := Lib.hid hs; clear hs)
                  go_ret
                  exact ⟨rfl, H.out.sm.trans_nil HA.out⟩
              · have he : rest.toList.isEmpty = false := by rw [ByteArray.toList_eq, ← Bool.not_eq_true, List.isEmpty_iff, ← List.length_eq_zero_iff, Array.length_toList]; exact h0
                have hqei : ¬ (q : Int) = (s.size : Int) := by omega
                have hrb := byteOf_at rest 0 (by omega)
                have h71 := HR71.out.resolve_left h0
                rw [h71] at hrb
                have hr0i : (0 : Int) < (rest.size : Int) := by omega
                go_wp2_with (go_at_call 9; (with_reducible refine (awake14_any _ (by exact H.out.tab)).mono ?_); rintro e w' ⟨rfl, hs⟩; have HA := Lib.hid hs; clear hs)
                go_ret
                exact ⟨rfl, H.out.sm.trans_nil HA.out⟩
        · exact absurd HR.out (hq1 s.size (by omega) (by omega))

end Go.Proofs.YtkjdfgmmmmjhlaaDoor
