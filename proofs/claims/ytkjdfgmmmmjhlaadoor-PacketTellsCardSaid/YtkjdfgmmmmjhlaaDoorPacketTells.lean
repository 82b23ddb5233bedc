/- The walk of the law PacketTells: whatever its arguments, it answers true. Condition: the table 'widths' lies. (Printed by gen_packetback.py.) -/
import Derived.Test.YtkjdfgmmmmjhlaaDoorWk2
import Derived.Test.YtkjdfgmmmmjhlaaDoorEn4
import Derived.StillTailTactics
namespace Go.Proofs.YtkjdfgmmmmjhlaaDoor
open Go.RowKit
set_option linter.unusedSimpArgs false
set_option linter.unusedVariables false

set_option maxRecDepth 100000 in
set_option maxHeartbeats 8000000 in
theorem packetTells_any (p : Int) (t : Bool) (c : Int) (b : Bool) (x : ByteArray) (w : World) (ht : Tab w) :
    Calls Tryd.prog 3 #[.agg #[.int .i64 p, .bool t, .int .i64 c, .bool b, .string x]] w (Ret (.bool true) w) := by
  have H := Lib.hid ((Hold.start ht).alloc (pktO p t c b x))
  have kk := H.out.pkt (p := p) (t := t) (c := c) (b := b) (x := x) w.heap.size (by simp)
  unfold PktAt pktO at kk
  unfold pktO at H
  obtain ⟨k0, k1, k2, k3, k4⟩ := kk
  clear ht
  by_cases h1 : 300 < x.size
  · have hi : (300 : Int) < (x.size : Int) := by omega
    go_enter Tryd.func3, Tryd.ntmps3
    go_wp2_with (go_at_call 9; (with_reducible refine (awake14_any _ (by exact H.out.tab)).mono ?_); rintro e w' ⟨rfl, hs⟩; have HA := Lib.hid hs; clear hs)
    go_ret
    exact ⟨rfl, H.out.sm.trans_nil HA.out⟩
  · have hi : ¬ (300 : Int) < (x.size : Int) := by omega
    clear h1
    have RB : ∀ W, Calls Tryd.prog 15 #[.agg #[.int .i64 8191, .bool false, .int .i64 0, .bool false, .string (manyS 184 255)]] W (Ret (.string emptyS) W) := fun W => rbytes_any 8191 false 0 false (manyS 184 255) W (by omega) (by omega) (by rw [size_many]; omega)
    have BB : ∀ W, Calls Tryd.prog 16 #[.int .i64 184, .int .u8 255] W (Ret (.string (manyS 184 255)) W) := fun W => bytes14 184 255 W (by omega)
    generalize hM : manyS 184 255 = M at RB BB
    have EM := Lib.hid (fun W (hT : Tab W) => empty14 W hT)
    generalize emptyS = E at RB EM
    have RB := Lib.hid RB; have BB := Lib.hid BB
    clear hM
    go_enter Tryd.func3, Tryd.ntmps3
    go_upto_region 3 with fail
    obtain ⟨g, hg⟩ : ∃ g, w.heap.size = g := ⟨_, rfl⟩
    rw [hg] at H k0 k1 k2 k3 k4
    try rw [hg]
    generalize w.alloc (.cells #[.int .i64 p, .bool t, .int .i64 c, .bool b, .string x] 23) = W1 at H k0 k1 k2 k3 k4 ⊢
    clear hg
    go_wp2_with fail
    (with_reducible refine (plain14 p t c b x _).mono ?_)
    rintro e w2 ⟨rfl, s9⟩
    replace H := Lib.hid (H.out.step s9)
    clear s9
    go_wp2_with fail
    (with_reducible refine (rpcheck_any p t c b x _).mono ?_)
    rintro e w3 ⟨rfl, s9⟩
    replace H := Lib.hid (H.out.step s9)
    clear s9
    clear k0 k1 k2 k3 k4
    by_cases hC : chkG p c x = 0
    · rw [hC]
      obtain ⟨m, k, rfl, rfl, h1, h2, h3⟩ := chk_nat hC
      have NP := Lib.hid (fun W => show Calls Tryd.prog 13 #[.agg #[.int .i64 (m : Int), .bool t, .int .i64 (k : Int), .bool b, .string x]] W (NumPost W 0) by rw [← hC]; exact pcheck_any _ _ _ _ _ W)
      have EN := Lib.hid (fun W hT => encode_ok m t k b x W h1 h2 h3 hT)
      have RN := Lib.hid (fun W => rbytes_any m t k b x W h1 h2 h3)
      have hz := size_enc m t k b x h3
      generalize encG m t k b x = U at EN RN hz
      have hzi : (U.size : Int) = 188 := by omega
      clear hz hC h1 h2 h3
      obtain ⟨k0, k1, k2, k3, k4⟩ := H.out.pkt g (p := (m : Int)) (t := t) (c := (k : Int)) (b := b) (x := x) (by simp [pktO])
      go_wp2_with fail
      (with_reducible refine (EN.out _ H.out.tab).mono ?_)
      rintro e w4 ⟨s9, rfl⟩
      replace H := Lib.hid (H.out.step s9)
      clear s9
      clear k0 k1 k2 k3 k4
      obtain ⟨k0, k1, k2, k3, k4⟩ := H.out.pkt g (p := (m : Int)) (t := t) (c := (k : Int)) (b := b) (x := x) (by simp [pktO])
      go_upto_region 5 with fail
      go_upto_region 9 with (first | (go_at_call 13; (with_reducible refine (NP.out _).mono ?_); rintro e w' ⟨rfl, s9⟩; replace H := Lib.hid (H.out.step s9); clear s9) | (go_at_call 14; (with_reducible refine (EM.out _ (by exact H.out.tab)).mono ?_); rintro e w' ⟨rfl, s9⟩; replace H := Lib.hid (H.out.step s9); clear s9) | (go_at_call 16; (with_reducible refine (BB.out _).mono ?_); rintro e w' ⟨rfl, s9⟩; replace H := Lib.hid (H.out.step s9); clear s9) | (go_at_call 15; (with_reducible refine (RB.out _).mono ?_); rintro e w' ⟨rfl, s9⟩; replace H := Lib.hid (H.out.step s9); clear s9))
      clear k0 k1 k2 k3 k4
      obtain ⟨k0, k1, k2, k3, k4⟩ := H.out.pkt g (p := (m : Int)) (t := t) (c := (k : Int)) (b := b) (x := x) (by simp [pktO])
      go_wp2_with (first | (go_at_call 11; (with_reducible refine (plain14 _ t _ b x _).mono ?_); rintro e w' ⟨rfl, s9⟩; replace H := Lib.hid (H.out.step s9); clear s9) | (go_at_call 15; (with_reducible refine (RN.out _).mono ?_); rintro e w' ⟨rfl, s9⟩; replace H := Lib.hid (H.out.step s9); clear s9) | (go_at_call 9; (with_reducible refine (awake14_any _ (by exact H.out.tab)).mono ?_); rintro e w' ⟨rfl, hs⟩; have HA := Lib.hid hs; clear hs))
      go_ret
      exact ⟨rfl, H.out.sm.trans_nil HA.out⟩
    · obtain ⟨n, hn⟩ : ∃ n, chkG p c x = n := ⟨_, rfl⟩
      have hn0 : ¬ n = 0 := by omega
      have NP := Lib.hid (fun W => show Calls Tryd.prog 13 #[.agg #[.int .i64 p, .bool t, .int .i64 c, .bool b, .string x]] W (NumPost W n) by rw [← hn]; exact pcheck_any _ _ _ _ _ W)
      have EN := Lib.hid (fun W => show Calls Tryd.prog 12 #[.agg #[.int .i64 p, .bool t, .int .i64 c, .bool b, .string x]] W (fun e w' => Same [] W w' ∧ e = .returned (.tuple #[.string ⟨#[]⟩, .int .i64 n])) from (encode_bad p t c b x W hC).mono fun e w' h => by unfold EncPost at h; rw [if_neg hC, hn] at h; exact h)
      rw [hn]
      clear hn hC
      obtain ⟨k0, k1, k2, k3, k4⟩ := H.out.pkt g (p := p) (t := t) (c := c) (b := b) (x := x) (by simp [pktO])
      go_wp2_with fail
      (with_reducible refine (EN.out _).mono ?_)
      rintro e w4 ⟨s9, rfl⟩
      replace H := Lib.hid (H.out.step s9)
      clear s9
      clear k0 k1 k2 k3 k4
      obtain ⟨k0, k1, k2, k3, k4⟩ := H.out.pkt g (p := p) (t := t) (c := c) (b := b) (x := x) (by simp [pktO])
      go_wp2_with (first | (go_at_call 9; (with_reducible refine (awake14_any _ (by exact H.out.tab)).mono ?_); rintro e w' ⟨rfl, hs⟩; have HA := Lib.hid hs; clear hs) | (go_at_call 13; (with_reducible refine (NP.out _).mono ?_); rintro e w' ⟨rfl, s9⟩; replace H := Lib.hid (H.out.step s9); clear s9) | (go_at_call 14; (with_reducible refine (EM.out _ (by exact H.out.tab)).mono ?_); rintro e w' ⟨rfl, s9⟩; replace H := Lib.hid (H.out.step s9); clear s9) | (go_at_call 16; (with_reducible refine (BB.out _).mono ?_); rintro e w' ⟨rfl, s9⟩; replace H := Lib.hid (H.out.step s9); clear s9) | (go_at_call 15; (with_reducible refine (RB.out _).mono ?_); rintro e w' ⟨rfl, s9⟩; replace H := Lib.hid (H.out.step s9); clear s9))
      go_ret
      exact ⟨rfl, H.out.sm.trans_nil HA.out⟩

end Go.Proofs.YtkjdfgmmmmjhlaaDoor
