/- The walk of the law PacketBack: whatever its arguments, it answers true. Condition: the table 'widths' lies. (Printed by gen_packetback.py.) -/
import Derived.Test.YtkjdfgmmmmjhlaaDoorWk2
namespace Go.Proofs.YtkjdfgmmmmjhlaaDoor
open Go.RowKit
set_option linter.unusedSimpArgs false
set_option linter.unusedVariables false

set_option maxRecDepth 100000 in
set_option maxHeartbeats 8000000 in
theorem packetBack_any (p : Int) (t : Bool) (c : Int) (b : Bool) (x : ByteArray) (s : ByteArray) (w : World) (ht : Tab w) :
    Calls Tryd.prog 7 #[.agg #[.int .i64 p, .bool t, .int .i64 c, .bool b, .string x], .string s] w (Ret (.bool true) w) := by
  have H := Lib.hid ((Hold.start ht).alloc (pktO p t c b x))
  have kk := H.out.pkt (p := p) (t := t) (c := c) (b := b) (x := x) w.heap.size (by simp)
  unfold PktAt pktO at kk
  unfold pktO at H
  obtain ⟨k0, k1, k2, k3, k4⟩ := kk
  clear ht
  by_cases hb : 300 < x.size ∨ 300 < s.size
  · by_cases h1 : 300 < x.size
    · have hi : (300 : Int) < (x.size : Int) := by omega
      go_enter Tryd.func7, Tryd.ntmps7
      go_wp2_with (go_at_call 9; (with_reducible refine (awake14_any _ (by exact H.out.tab)).mono ?_); rintro e w' ⟨rfl, hs⟩; have HA := Lib.hid hs; clear hs)
      go_ret
      exact ⟨rfl, H.out.sm.trans_nil HA.out⟩
    · have hi : ¬ (300 : Int) < (x.size : Int) := by omega
      have hi2 : (300 : Int) < (s.size : Int) := by omega
      go_enter Tryd.func7, Tryd.ntmps7
      go_wp2_with (go_at_call 9; (with_reducible refine (awake14_any _ (by exact H.out.tab)).mono ?_); rintro e w' ⟨rfl, hs⟩; have HA := Lib.hid hs; clear hs)
      go_ret
      exact ⟨rfl, H.out.sm.trans_nil HA.out⟩
  · have hi : ¬ (300 : Int) < (x.size : Int) := by omega
    have hi2 : ¬ (300 : Int) < (s.size : Int) := by omega
    clear hb
    go_enter Tryd.func7, Tryd.ntmps7
    go_upto_region 3 with fail
    obtain ⟨g, hg⟩ : ∃ g, w.heap.size = g := ⟨_, rfl⟩
    rw [hg] at H k0 k1 k2 k3 k4
    try rw [hg]
    generalize w.alloc (.cells #[.int .i64 p, .bool t, .int .i64 c, .bool b, .string x] 23) = W1 at H k0 k1 k2 k3 k4 ⊢
    clear hg
    go_wp2_with fail
    (with_reducible refine (plain14 p t c b x _).mono ?_)
    rintro e w2 ⟨rfl, s9⟩
    replace H := Lib.hid (H.out.step s9)
    clear s9
    go_wp2_with fail
    (with_reducible refine (rpcheck_any p t c b x _).mono ?_)
    rintro e w3 ⟨rfl, s9⟩
    replace H := Lib.hid (H.out.step s9)
    clear s9
    clear k0 k1 k2 k3 k4
    by_cases hC : chkG p c x = 0
    case' pos =>
      rw [hC]
      obtain ⟨U, hU, HE, HD⟩ := enc_dec p t c b x hC
      have HE := Lib.hid HE; have HD := Lib.hid HD
      obtain ⟨k0, k1, k2, k3, k4⟩ := H.out.pkt g (p := p) (t := t) (c := c) (b := b) (x := x) (by simp [pktO])
      go_wp2_with fail
      (with_reducible refine (HE.out _ H.out.tab).mono ?_)
      rintro e w4 ⟨s9, rfl⟩
      replace H := Lib.hid (H.out.step s9)
      clear s9
      clear k0 k1 k2 k3 k4
      go_wp2_with fail
      (with_reducible refine (HD.out _ H.out.tab).mono ?_)
      rintro e w5 ⟨s9, rfl⟩
      replace H := Lib.hid (H.out.step s9)
      clear s9
      obtain ⟨g2, hg⟩ : ∃ g2, w5.heap.size = g2 := ⟨_, rfl⟩
      go_upto_region 6 with fail
      replace H := Lib.hid (H.out.alloc (.cells #[.int .i64 p, .bool t, .int .i64 c, .bool b, .string x] 23))
      rw [hg] at H
      try rw [hg]
      generalize w5.alloc (.cells #[.int .i64 p, .bool t, .int .i64 c, .bool b, .string x] 23) = W6 at H ⊢
      clear hg
      obtain ⟨k0, k1, k2, k3, k4⟩ := H.out.pkt g (p := p) (t := t) (c := c) (b := b) (x := x) (by simp [pktO])
      obtain ⟨m0, m1, m2, m3, m4⟩ := H.out.pkt g2 (p := p) (t := t) (c := c) (b := b) (x := x) (by simp [pktO])
      go_upto_region 8 with fail
      clear k0 k1 k2 k3 k4 m0 m1 m2 m3 m4 HE HD
    case' neg =>
      go_upto_region 8 with fail
    all_goals (clear hC hi hi2)
    all_goals (by_cases hE : decE s = 0)
    case pos =>
      obtain ⟨P, T, C, B, Y, hV, hK⟩ := dec_shape0 s hE
      obtain ⟨V, hV1, HE, HD⟩ := enc_dec P T C B Y hK
      have HE := Lib.hid HE; have HD := Lib.hid HD
      have hVi : (V.size : Int) = 188 := by omega
      have HS : ∀ W, Tab W → Calls Tryd.prog 20 #[.string s] W (fun e w' => Same [] W w' ∧ e = .returned (.tuple #[.agg #[.int .i64 P, .bool T, .int .i64 C, .bool B, .string Y], .int .i64 0])) := fun W hT => (decode_any s W hT).mono fun e w' ⟨h1, h2⟩ => ⟨h1, by rw [h2, if_pos hE, hE, hV]⟩
      have HS := Lib.hid HS
      clear hE hV hK hV1
      go_wp2_with fail
      (with_reducible refine (HS.out _ H.out.tab).mono ?_)
      rintro e w7 ⟨s9, rfl⟩
      replace H := Lib.hid (H.out.step s9)
      clear s9
      obtain ⟨g3, hg⟩ : ∃ g3, w7.heap.size = g3 := ⟨_, rfl⟩
      go_upto_region 9 with fail
      replace H := Lib.hid (H.out.alloc (.cells #[.int .i64 P, .bool T, .int .i64 C, .bool B, .string Y] 23))
      rw [hg] at H
      try rw [hg]
      generalize w7.alloc (.cells #[.int .i64 P, .bool T, .int .i64 C, .bool B, .string Y] 23) = W8 at H ⊢
      clear hg
      obtain ⟨k0, k1, k2, k3, k4⟩ := H.out.pkt g3 (p := P) (t := T) (c := C) (b := B) (x := Y) (by simp [pktO])
      go_wp2_with fail
      (with_reducible refine (HE.out _ H.out.tab).mono ?_)
      rintro e w8 ⟨s9, rfl⟩
      replace H := Lib.hid (H.out.step s9)
      clear s9
      clear k0 k1 k2 k3 k4
      go_wp2_with fail
      (with_reducible refine (HD.out _ H.out.tab).mono ?_)
      rintro e w9 ⟨s9, rfl⟩
      replace H := Lib.hid (H.out.step s9)
      clear s9
      obtain ⟨g4, hg⟩ : ∃ g4, w9.heap.size = g4 := ⟨_, rfl⟩
      go_upto_region 13 with fail
      replace H := Lib.hid (H.out.alloc (.cells #[.int .i64 P, .bool T, .int .i64 C, .bool B, .string Y] 23))
      rw [hg] at H
      try rw [hg]
      generalize w9.alloc (.cells #[.int .i64 P, .bool T, .int .i64 C, .bool B, .string Y] 23) = W9 at H ⊢
      clear hg
      obtain ⟨k0, k1, k2, k3, k4⟩ := H.out.pkt g3 (p := P) (t := T) (c := C) (b := B) (x := Y) (by simp [pktO])
      obtain ⟨m0, m1, m2, m3, m4⟩ := H.out.pkt g4 (p := P) (t := T) (c := C) (b := B) (x := Y) (by simp [pktO])
      go_wp2_with (go_at_call 9; (with_reducible refine (awake14_any _ (by exact H.out.tab)).mono ?_); rintro e w' ⟨rfl, hs⟩; have HA := Lib.hid hs; clear hs)
      go_ret
      exact ⟨rfl, H.out.sm.trans_nil HA.out⟩
    case neg =>
      obtain ⟨n, hn⟩ : ∃ n, decE s = n := ⟨_, rfl⟩
      have hn0 : ¬ n = 0 := by omega
      have HS : ∀ W, Tab W → Calls Tryd.prog 20 #[.string s] W (fun e w' => Same [] W w' ∧ e = .returned (.tuple #[.agg #[.int .i64 0, .bool false, .int .i64 0, .bool false, .string ⟨#[]⟩], .int .i64 n])) := fun W hT => (decode_any s W hT).mono fun e w' ⟨h1, h2⟩ => ⟨h1, by rw [h2, if_neg hE, hn]; rfl⟩
      have HS := Lib.hid HS
      clear hE hn
      go_wp2_with fail
      (with_reducible refine (HS.out _ H.out.tab).mono ?_)
      rintro e w7 ⟨s9, rfl⟩
      replace H := Lib.hid (H.out.step s9)
      clear s9
      obtain ⟨g3, hg⟩ : ∃ g3, w7.heap.size = g3 := ⟨_, rfl⟩
      go_upto_region 9 with fail
      replace H := Lib.hid (H.out.alloc (.cells #[.int .i64 0, .bool false, .int .i64 0, .bool false, .string ⟨#[]⟩] 23))
      rw [hg] at H
      try rw [hg]
      generalize w7.alloc (.cells #[.int .i64 0, .bool false, .int .i64 0, .bool false, .string ⟨#[]⟩] 23) = W8 at H ⊢
      clear hg
      obtain ⟨k0, k1, k2, k3, k4⟩ := H.out.pkt g3 (p := 0) (t := false) (c := 0) (b := false) (x := ⟨#[]⟩) (by simp [pktO])
      go_wp2_with (go_at_call 9; (with_reducible refine (awake14_any _ (by exact H.out.tab)).mono ?_); rintro e w' ⟨rfl, hs⟩; have HA := Lib.hid hs; clear hs)
      go_ret
      exact ⟨rfl, H.out.sm.trans_nil HA.out⟩
    case pos =>
      obtain ⟨P, T, C, B, Y, hV, hK⟩ := dec_shape0 s hE
      obtain ⟨V, hV1, HE, HD⟩ := enc_dec P T C B Y hK
      have HE := Lib.hid HE; have HD := Lib.hid HD
      have hVi : (V.size : Int) = 188 := by omega
      have HS : ∀ W, Tab W → Calls Tryd.prog 20 #[.string s] W (fun e w' => Same [] W w' ∧ e = .returned (.tuple #[.agg #[.int .i64 P, .bool T, .int .i64 C, .bool B, .string Y], .int .i64 0])) := fun W hT => (decode_any s W hT).mono fun e w' ⟨h1, h2⟩ => ⟨h1, by rw [h2, if_pos hE, hE, hV]⟩
      have HS := Lib.hid HS
      clear hE hV hK hV1
      go_wp2_with fail
      (with_reducible refine (HS.out _ H.out.tab).mono ?_)
      rintro e w7 ⟨s9, rfl⟩
      replace H := Lib.hid (H.out.step s9)
      clear s9
      obtain ⟨g3, hg⟩ : ∃ g3, w7.heap.size = g3 := ⟨_, rfl⟩
      go_upto_region 9 with fail
      replace H := Lib.hid (H.out.alloc (.cells #[.int .i64 P, .bool T, .int .i64 C, .bool B, .string Y] 23))
      rw [hg] at H
      try rw [hg]
      generalize w7.alloc (.cells #[.int .i64 P, .bool T, .int .i64 C, .bool B, .string Y] 23) = W8 at H ⊢
      clear hg
      obtain ⟨k0, k1, k2, k3, k4⟩ := H.out.pkt g3 (p := P) (t := T) (c := C) (b := B) (x := Y) (by simp [pktO])
      go_wp2_with fail
      (with_reducible refine (HE.out _ H.out.tab).mono ?_)
      rintro e w8 ⟨s9, rfl⟩
      replace H := Lib.hid (H.out.step s9)
      clear s9
      clear k0 k1 k2 k3 k4
      go_wp2_with fail
      (with_reducible refine (HD.out _ H.out.tab).mono ?_)
      rintro e w9 ⟨s9, rfl⟩
      replace H := Lib.hid (H.out.step s9)
      clear s9
      obtain ⟨g4, hg⟩ : ∃ g4, w9.heap.size = g4 := ⟨_, rfl⟩
      go_upto_region 13 with fail
      replace H := Lib.hid (H.out.alloc (.cells #[.int .i64 P, .bool T, .int .i64 C, .bool B, .string Y] 23))
      rw [hg] at H
      try rw [hg]
      generalize w9.alloc (.cells #[.int .i64 P, .bool T, .int .i64 C, .bool B, .string Y] 23) = W9 at H ⊢
      clear hg
      obtain ⟨k0, k1, k2, k3, k4⟩ := H.out.pkt g3 (p := P) (t := T) (c := C) (b := B) (x := Y) (by simp [pktO])
      obtain ⟨m0, m1, m2, m3, m4⟩ := H.out.pkt g4 (p := P) (t := T) (c := C) (b := B) (x := Y) (by simp [pktO])
      go_wp2_with (go_at_call 9; (with_reducible refine (awake14_any _ (by exact H.out.tab)).mono ?_); rintro e w' ⟨rfl, hs⟩; have HA := Lib.hid hs; clear hs)
      go_ret
      exact ⟨rfl, H.out.sm.trans_nil HA.out⟩
    case neg =>
      obtain ⟨n, hn⟩ : ∃ n, decE s = n := ⟨_, rfl⟩
      have hn0 : ¬ n = 0 := by omega
      have HS : ∀ W, Tab W → Calls Tryd.prog 20 #[.string s] W (fun e w' => Same [] W w' ∧ e = .returned (.tuple #[.agg #[.int .i64 0, .bool false, .int .i64 0, .bool false, .string ⟨#[]⟩], .int .i64 n])) := fun W hT => (decode_any s W hT).mono fun e w' ⟨h1, h2⟩ => ⟨h1, by rw [h2, if_neg hE, hn]; rfl⟩
      have HS := Lib.hid HS
      clear hE hn
      go_wp2_with fail
      (with_reducible refine (HS.out _ H.out.tab).mono ?_)
      rintro e w7 ⟨s9, rfl⟩
      replace H := Lib.hid (H.out.step s9)
      clear s9
      obtain ⟨g3, hg⟩ : ∃ g3, w7.heap.size = g3 := ⟨_, rfl⟩
      go_upto_region 9 with fail
      replace H := Lib.hid (H.out.alloc (.cells #[.int .i64 0, .bool false, .int .i64 0, .bool false, .string ⟨#[]⟩] 23))
      rw [hg] at H
      try rw [hg]
      generalize w7.alloc (.cells #[.int .i64 0, .bool false, .int .i64 0, .bool false, .string ⟨#[]⟩] 23) = W8 at H ⊢
      clear hg
      obtain ⟨k0, k1, k2, k3, k4⟩ := H.out.pkt g3 (p := 0) (t := false) (c := 0) (b := false) (x := ⟨#[]⟩) (by simp [pktO])
      go_wp2_with (go_at_call 9; (with_reducible refine (awake14_any _ (by exact H.out.tab)).mono ?_); rintro e w' ⟨rfl, hs⟩; have HA := Lib.hid hs; clear hs)
      go_ret
      exact ⟨rfl, H.out.sm.trans_nil HA.out⟩

end Go.Proofs.YtkjdfgmmmmjhlaaDoor
