/- The walk of the law PacketFields: whatever its arguments, it answers true. Condition: the table 'widths' lies. (Printed by gen_packetback.py.) -/
import Derived.Test.YtkjdfgmmmmjhlaaDoorWk2
import Derived.StillTailTactics
namespace Go.Proofs.YtkjdfgmmmmjhlaaDoor
open Go.RowKit
set_option linter.unusedSimpArgs false
set_option linter.unusedVariables false

/-- A packet and the one that is cut by one byte. -/
theorem fields_all (p : Int) (t : Bool) (c : Int) (b : Bool) (x : ByteArray) (h : chkG p c x = 0) (h0 : x.size ≠ 0) : ∃ U V : ByteArray, (U.size = 188 ∧ V.size = 188 ∧ U.extract 0 3 = V.extract 0 3 ∧ byteOf U 3 % 16 = byteOf V 3 % 16 ∧
      U.extract (189 - x.size) 188 = V.extract (189 - x.size) 188 ∧ (x.size = 184 ∨ byteOf V 4 = byteOf U 4 + 1)) ∧ x.size ≤ 184 ∧
    (∀ W, Tab W → Calls Tryd.prog 12 #[.agg #[.int .i64 p, .bool t, .int .i64 c, .bool b, .string x]] W (fun e w' => Same [] W w' ∧ e = .returned (.tuple #[.string U, .int .i64 0]))) ∧
    (∀ W, Tab W → Calls Tryd.prog 12 #[.agg #[.int .i64 p, .bool t, .int .i64 c, .bool b, .string (x.extract 1 x.size)]] W (fun e w' => Same [] W w' ∧ e = .returned (.tuple #[.string V, .int .i64 0]))) ∧
    (∀ W, Tab W → Calls Tryd.prog 20 #[.string V] W (fun e w' => Same [] W w' ∧ e = .returned (.tuple #[.agg #[.int .i64 p, .bool t, .int .i64 c, .bool b, .string (x.extract 1 x.size)], .int .i64 0]))) := by
  obtain ⟨m, k, rfl, rfl, h1, h2, h3⟩ := chk_nat h
  have hq : (x.extract 1 x.size).size = x.size - 1 := by rw [ByteArray.size_extract]; omega
  have h4 : (x.extract 1 x.size).size ≤ 184 := by omega
  obtain ⟨d1, d2⟩ := dec_enc m t k b (x.extract 1 x.size) h1 h2 h4
  obtain ⟨f1, f2, f3, f4⟩ := fields_law m t k b x h1 h2 h3 h0
  refine ⟨encG m t k b x, encG m t k b (x.extract 1 x.size), ⟨size_enc _ _ _ _ _ h3, size_enc _ _ _ _ _ h4, f1, f2, f3, f4⟩, h3, fun W hT => encode_ok m t k b x W h1 h2 h3 hT, fun W hT => encode_ok m t k b _ W h1 h2 h4 hT, fun W hT => (decode_any _ W hT).mono fun e w' ⟨s, he⟩ => ⟨s, ?_⟩⟩
  rw [he, d1, if_pos rfl, d2]

set_option maxRecDepth 100000 in
set_option maxHeartbeats 8000000 in
theorem packetFields_any (p : Int) (t : Bool) (c : Int) (b : Bool) (x : ByteArray) (w : World) (ht : Tab w) :
    Calls Tryd.prog 8 #[.agg #[.int .i64 p, .bool t, .int .i64 c, .bool b, .string x]] w (Ret (.bool true) w) := by
  have H := Lib.hid ((Hold.start ht).alloc (pktO p t c b x))
  have kk := H.out.pkt (p := p) (t := t) (c := c) (b := b) (x := x) w.heap.size (by simp)
  unfold PktAt pktO at kk
  unfold pktO at H
  obtain ⟨k0, k1, k2, k3, k4⟩ := kk
  clear ht
  by_cases hC : chkG p c x = 0
  · by_cases h0 : x.size = 0
    · have he : x.toList.isEmpty = true := by rw [ByteArray.toList_eq, List.isEmpty_iff, ← List.length_eq_zero_iff, Array.length_toList]; exact h0
      have NP := Lib.hid (fun W => rpcheck_any p t c b x W)
      rw [hC] at NP
      go_enter Tryd.func8, Tryd.ntmps8
      go_upto_region 1 with fail
      obtain ⟨g, hg⟩ : ∃ g, w.heap.size = g := ⟨_, rfl⟩
      rw [hg] at H k0 k1 k2 k3 k4
      try rw [hg]
      generalize w.alloc (.cells #[.int .i64 p, .bool t, .int .i64 c, .bool b, .string x] 23) = W1 at H k0 k1 k2 k3 k4 ⊢
      clear hg
      go_wp2_with fail
      (with_reducible refine (plain14 p t c b x _).mono ?_)
      rintro e w2 ⟨rfl, s9⟩
      replace H := Lib.hid (H.out.step s9)
      clear s9
      go_wp2_with fail
      (with_reducible refine (NP.out _).mono ?_)
      rintro e w3 ⟨rfl, s9⟩
      replace H := Lib.hid (H.out.step s9)
      clear s9
      clear k0 k1 k2 k3 k4
      obtain ⟨k0, k1, k2, k3, k4⟩ := H.out.pkt g (p := p) (t := t) (c := c) (b := b) (x := x) (by simp [pktO])
      go_wp2_with (go_at_call 9; (with_reducible refine (awake14_any _ (by exact H.out.tab)).mono ?_); rintro e w' ⟨rfl, hs⟩; have HA := Lib.hid hs; clear hs)
      go_ret
      exact ⟨rfl, H.out.sm.trans_nil HA.out⟩
    · have he : x.toList.isEmpty = false := by rw [ByteArray.toList_eq, ← Bool.not_eq_true, List.isEmpty_iff, ← List.length_eq_zero_iff, Array.length_toList]; exact h0
      have NP := Lib.hid (fun W => rpcheck_any p t c b x W)
      rw [hC] at NP
      obtain ⟨U, V, ⟨u1, u2, u3, u4, u5, u6⟩, hx184, E1, E2, D2⟩ := fields_all p t c b x hC h0
      have E1 := Lib.hid E1; have E2 := Lib.hid E2; have D2 := Lib.hid D2; have U4 := Lib.hid u4; have U5 := Lib.hid u5; have U6 := Lib.hid u6; have U3 := Lib.hid u3
      clear u3 u4 u5 u6
      have hx1 : (1 : Int) ≤ (x.size : Int) := by omega
      go_enter Tryd.func8, Tryd.ntmps8
      go_upto_region 1 with fail
      obtain ⟨g, hg⟩ : ∃ g, w.heap.size = g := ⟨_, rfl⟩
      rw [hg] at H k0 k1 k2 k3 k4
      try rw [hg]
      generalize w.alloc (.cells #[.int .i64 p, .bool t, .int .i64 c, .bool b, .string x] 23) = W1 at H k0 k1 k2 k3 k4 ⊢
      clear hg
      go_wp2_with fail
      (with_reducible refine (plain14 p t c b x _).mono ?_)
      rintro e w2 ⟨rfl, s9⟩
      replace H := Lib.hid (H.out.step s9)
      clear s9
      go_wp2_with fail
      (with_reducible refine (NP.out _).mono ?_)
      rintro e w3 ⟨rfl, s9⟩
      replace H := Lib.hid (H.out.step s9)
      clear s9
      clear k0 k1 k2 k3 k4
      obtain ⟨k0, k1, k2, k3, k4⟩ := H.out.pkt g (p := p) (t := t) (c := c) (b := b) (x := x) (by simp [pktO])
      obtain ⟨g3, hg⟩ : ∃ g, w3.heap.size = g := ⟨_, rfl⟩
      go_upto_region 4 with fail
      have H0 := H
      replace H := Lib.hid (H.out.alloc (.cells #[.int .i64 p, .bool t, .int .i64 c, .bool b, .string x] 23))
      have hgg : g < g3 := by rw [← hg]; exact heap_lt (H0.out.at (g, pktO p t c b x) (by simp [pktO]))
      have hwg : w.heap.size ≤ g3 := by rw [← hg]; exact H0.out.sm.size
      rw [hg] at H
      try rw [hg]
      generalize w3.alloc (.cells #[.int .i64 p, .bool t, .int .i64 c, .bool b, .string x] 23) = W4 at H ⊢
      clear hg k0 k1 k2 k3 k4
      clear H0
      obtain ⟨k0, k1, k2, k3, k4⟩ := H.out.pkt g (p := p) (t := t) (c := c) (b := b) (x := x) (by simp [pktO])
      obtain ⟨m0, m1, m2, m3, m4⟩ := H.out.pkt g3 (p := p) (t := t) (c := c) (b := b) (x := x) (by simp [pktO])
      have f4 := free_of (H.out.at (g3, pktO p t c b x) (by simp [pktO])) 4
      go_upto_region 5 with fail
      replace H := Lib.hid (H.out.body (p := p) (t := t) (c := c) (b := b) (x := x) hwg (by simp; exact hgg) (x.extract 1 x.size))
      generalize W4.setCell ⟨g3, 4, none⟩ (.string (x.extract 1 x.size)) = W5 at H ⊢
      unfold pktO at H
      clear k0 k1 k2 k3 k4 m0 m1 m2 m3 m4 f4 hgg hwg
      obtain ⟨k0, k1, k2, k3, k4⟩ := H.out.pkt g (p := p) (t := t) (c := c) (b := b) (x := x) (by simp [pktO])
      obtain ⟨m0, m1, m2, m3, m4⟩ := H.out.pkt g3 (p := p) (t := t) (c := c) (b := b) (x := (x.extract 1 x.size)) (by simp [pktO])
      go_wp2_with fail
      (with_reducible refine (E1.out _ H.out.tab).mono ?_)
      rintro e w6 ⟨s9, rfl⟩
      replace H := Lib.hid (H.out.step s9)
      clear s9
      clear k0 k1 k2 k3 k4 m0 m1 m2 m3 m4
      obtain ⟨k0, k1, k2, k3, k4⟩ := H.out.pkt g (p := p) (t := t) (c := c) (b := b) (x := x) (by simp [pktO])
      obtain ⟨m0, m1, m2, m3, m4⟩ := H.out.pkt g3 (p := p) (t := t) (c := c) (b := b) (x := (x.extract 1 x.size)) (by simp [pktO])
      go_wp2_with fail
      (with_reducible refine (E2.out _ H.out.tab).mono ?_)
      rintro e w7 ⟨s9, rfl⟩
      replace H := Lib.hid (H.out.step s9)
      clear s9
      clear k0 k1 k2 k3 k4 m0 m1 m2 m3 m4
      go_wp2_with fail
      (with_reducible refine (D2.out _ H.out.tab).mono ?_)
      rintro e w8 ⟨s9, rfl⟩
      replace H := Lib.hid (H.out.step s9)
      clear s9
      obtain ⟨g8, hg⟩ : ∃ g8, w8.heap.size = g8 := ⟨_, rfl⟩
      go_upto_region 8 with fail
      replace H := Lib.hid (H.out.alloc (.cells #[.int .i64 p, .bool t, .int .i64 c, .bool b, .string (x.extract 1 x.size)] 23))
      rw [hg] at H
      try rw [hg]
      generalize w8.alloc (.cells #[.int .i64 p, .bool t, .int .i64 c, .bool b, .string (x.extract 1 x.size)] 23) = W8 at H ⊢
      clear hg
      obtain ⟨k0, k1, k2, k3, k4⟩ := H.out.pkt g (p := p) (t := t) (c := c) (b := b) (x := x) (by simp [pktO])
      obtain ⟨m0, m1, m2, m3, m4⟩ := H.out.pkt g3 (p := p) (t := t) (c := c) (b := b) (x := (x.extract 1 x.size)) (by simp [pktO])
      obtain ⟨n0, n1, n2, n3, n4⟩ := H.out.pkt g8 (p := p) (t := t) (c := c) (b := b) (x := (x.extract 1 x.size)) (by simp [pktO])
      have ui : (U.size : Int) = 188 := by omega
      have vi : (V.size : Int) = 188 := by omega
      go_upto_region 10 with fail
      obtain ⟨k, hk⟩ : ∃ k, 189 - x.size = k := ⟨_, rfl⟩
      have hki : (189 : Int) - (x.size : Int) = (k : Int) := by omega
      have hk0 : k ≤ 188 := by omega
      have hki2 : (k : Int) ≤ 188 := by omega
      rw [hk] at U5
      have h3 := U3.out
      have h5 := U5.out
      have wk : IntKind.i64.wrap (k : Int) = (k : Int) := IntWalk.i64_in _ (by omega)
      have b3 := byteOf_at U 3 (by omega)
      have b4 := byteOf_at U 4 (by omega)
      have d3 := byteOf_at V 3 (by omega)
      have d4 := byteOf_at V 4 (by omega)
      obtain ⟨r, hr⟩ : ∃ r, byteOf V 3 % 16 = r := ⟨_, rfl⟩
      have q3 : ((byteOf U 3 : Nat) : Int).tmod 16 = (r : Int) := by rw [Int.tmod_eq_emod_of_nonneg (by omega)]; have := U4.out; omega
      have q4 : ((byteOf V 3 : Nat) : Int).tmod 16 = (r : Int) := by rw [Int.tmod_eq_emod_of_nonneg (by omega)]; omega
      have l4 := byteOf_lt U 4; have n4' := byteOf_lt V 4
      clear hr U3 U4 U5
      by_cases h184 : x.size = 184
      · have hxi : (x.size : Int) = 184 := by omega
        have HXE := Lib.hid hxi
        clear hxi h184
        refine wp_region_still_tail 46 (by kernel_rfl) (by kernel_rfl) ?_
        simp only [List.take_succ_cons, List.take_zero, List.drop_succ_cons, List.drop_zero]
        iterate 33 (with_reducible refine wpStill_step (fun K hK => ?_); go_simp; with_reducible refine hK _ ?_; clear hK K)
        have hxi := HXE.out
        (with_reducible refine wpStill_step (fun K hK => ?_); go_simp; with_reducible refine hK _ ?_; clear hK K)
        clear hxi
        iterate 12 (with_reducible refine wpStill_step (fun K hK => ?_); go_simp; with_reducible refine hK _ ?_; clear hK K)
        refine wpStill_nil ?_
        change wpList _ _ _ _ _ W8.drew
        replace H := Lib.hid (H.out.step ((Same.refl [] W8).drew))
        generalize W8.drew = W9 at H ⊢
        go_wp2_with (go_at_call 9; (with_reducible refine (awake14_any _ (by exact H.out.tab)).mono ?_); rintro e w' ⟨rfl, hs⟩; have HA := Lib.hid hs; clear hs)
        go_ret
        exact ⟨rfl, H.out.sm.trans_nil HA.out⟩
      · have hxi : ¬ (x.size : Int) = 184 := by omega
        have wa : IntKind.i64.wrap ((byteOf U 4 : Int) + 1) = (byteOf U 4 : Int) + 1 := IntWalk.i64_in _ (by omega)
        have e4 : (byteOf V 4 : Int) = (byteOf U 4 : Int) + 1 := by have := U6.out; omega
        go_still_tail 46, (by kernel_rfl)
        change wpList _ _ _ _ _ W8.drew
        replace H := Lib.hid (H.out.step ((Same.refl [] W8).drew))
        generalize W8.drew = W9 at H ⊢
        go_wp2_with (go_at_call 9; (with_reducible refine (awake14_any _ (by exact H.out.tab)).mono ?_); rintro e w' ⟨rfl, hs⟩; have HA := Lib.hid hs; clear hs)
        go_ret
        exact ⟨rfl, H.out.sm.trans_nil HA.out⟩
  · obtain ⟨n, hn⟩ : ∃ n, chkG p c x = n := ⟨_, rfl⟩
    have hn0 : ¬ n = 0 := by omega
    have NP := Lib.hid (fun W => rpcheck_any p t c b x W)
    rw [hn] at NP
    clear hn hC
    go_enter Tryd.func8, Tryd.ntmps8
    go_upto_region 1 with fail
    obtain ⟨g, hg⟩ : ∃ g, w.heap.size = g := ⟨_, rfl⟩
    rw [hg] at H k0 k1 k2 k3 k4
    try rw [hg]
    generalize w.alloc (.cells #[.int .i64 p, .bool t, .int .i64 c, .bool b, .string x] 23) = W1 at H k0 k1 k2 k3 k4 ⊢
    clear hg
    go_wp2_with fail
    (with_reducible refine (plain14 p t c b x _).mono ?_)
    rintro e w2 ⟨rfl, s9⟩
    replace H := Lib.hid (H.out.step s9)
    clear s9
    go_wp2_with fail
    (with_reducible refine (NP.out _).mono ?_)
    rintro e w3 ⟨rfl, s9⟩
    replace H := Lib.hid (H.out.step s9)
    clear s9
    clear k0 k1 k2 k3 k4
    obtain ⟨k0, k1, k2, k3, k4⟩ := H.out.pkt g (p := p) (t := t) (c := c) (b := b) (x := x) (by simp [pktO])
    go_wp2_with (go_at_call 9; (with_reducible refine (awake14_any _ (by exact H.out.tab)).mono ?_); rintro e w' ⟨rfl, hs⟩; have HA := Lib.hid hs; clear hs)
    go_ret
    exact ⟨rfl, H.out.sm.trans_nil HA.out⟩

end Go.Proofs.YtkjdfgmmmmjhlaaDoor
