/- The walk of the law PacketReads: whatever bytes, it answers true. Condition: the table 'widths' lies. -/
import Derived.Test.YtkjdfgmmmmjhlaaDoorWk1
namespace Go.Proofs.YtkjdfgmmmmjhlaaDoor
open Go.RowKit
set_option linter.unusedSimpArgs false
set_option linter.unusedVariables false

theorem dec_shape (s : ByteArray) : ∃ (p : Int) (t : Bool) (c : Int) (b : Bool) (x : ByteArray), (if decE s = 0 then decV s else zeroV) = .agg #[.int .i64 p, .bool t, .int .i64 c, .bool b, .string x] := by
  split
  · exact ⟨_, _, _, _, _, rfl⟩
  · exact ⟨_, _, _, _, _, rfl⟩

set_option maxRecDepth 100000 in
set_option maxHeartbeats 4000000 in
theorem packetReads_any (s : ByteArray) (w : World) (ht : Tab w) : Calls Tryd.prog 6 #[.string s] w (Ret (.bool true) w) := by
  have HT := Lib.hid ht
  clear ht
  by_cases hb : 300 < s.size
  · have hb2 : (300 : Int) < (s.size : Int) := by omega
    go_enter Tryd.func6, Tryd.ntmps6
    go_wp2_with (go_at_call 9; (with_reducible refine (awake14_any _ (by exact HT.out)).mono ?_); rintro e w' ⟨rfl, hs⟩; have HA := Lib.hid hs; clear hs)
    go_ret
    exact ⟨rfl, HA.out⟩
  · have hb2 : ¬ (300 : Int) < (s.size : Int) := by omega
    obtain ⟨p, t, c, b, x, hV⟩ := dec_shape s
    have HD := Lib.hid (fun W (h : Tab W) => decode_any s W h)
    have HR := Lib.hid (fun W => rdecode_any s W)
    unfold DecPost at HD HR
    rw [hV] at HD HR
    generalize decE s = n at HD HR
    clear hV
    go_enter Tryd.func6, Tryd.ntmps6
    go_wp2_with fail
    (with_reducible refine (HD.out _ HT.out).mono ?_)
    rintro e w1 ⟨s1, rfl⟩
    have S1 := Lib.hid s1
    have T1 := Lib.hid (HT.out.same s1 (by simp))
    have hz1 := s1.size
    clear s1 HT
    have B1 := Lib.hid (heap_alloc_new w1 (.cells #[.int .i64 p, .bool t, .int .i64 c, .bool b, .string x] 23))
    go_wp2_with fail
    (with_reducible refine (HR.out _).mono ?_)
    rintro e w2 ⟨s2, rfl⟩
    have A1 := Lib.hid (((Below.heap_alloc w2 (.cells #[.int .i64 p, .bool t, .int .i64 c, .bool b, .string x] 27) _ (by have := s2.size; rw [World.size_alloc] at this; omega)).trans (s2.heap B1.out (by simp))))
    have A2 := Lib.hid (heap_alloc_new w2 (.cells #[.int .i64 p, .bool t, .int .i64 c, .bool b, .string x] 27))
    have S2 := Lib.hid (((S1.out.alloc (.cells #[.int .i64 p, .bool t, .int .i64 c, .bool b, .string x] 23)).trans_nil s2).alloc (.cells #[.int .i64 p, .bool t, .int .i64 c, .bool b, .string x] 27))
    have T2 := Lib.hid ((T1.out.same (((Same.refl [] w1).alloc (.cells #[.int .i64 p, .bool t, .int .i64 c, .bool b, .string x] 23)).trans_nil s2) (by simp)).same ((Same.refl [] w2).alloc (.cells #[.int .i64 p, .bool t, .int .i64 c, .bool b, .string x] 27)) (by simp))
    have hz2 := s2.size
    rw [World.size_alloc] at hz2
    clear s2
    obtain ⟨g, hg⟩ : ∃ g, w1.heap.size = g := ⟨_, rfl⟩
    obtain ⟨k, hk⟩ : ∃ k, w2.heap.size = k := ⟨_, rfl⟩
    go_upto_region 5 with fail
    rw [hg] at A1
    rw [hk] at A2
    try rw [hg]
    try rw [hk]
    generalize w2.alloc (.cells #[.int .i64 p, .bool t, .int .i64 c, .bool b, .string x] 27) = W5 at A1 A2 S2 T2 ⊢
    clear hg hk hz2 hz1
    obtain ⟨k0, k1, k2, k3, k4⟩ := pkt_cells A1.out
    obtain ⟨m0, m1, m2, m3, m4⟩ := rp_cells A2.out
    go_region_with (first
      | (go_at_call 11; (with_reducible refine (plain14 p t c b x _).mono ?_); rintro e w' ⟨rfl, hs⟩; have hq : Same [] W5 w' := ((Same.refl [] W5).drew).trans_nil hs; obtain ⟨e0, e1, e2, e3, e4⟩ := pkt_cells (hq.heap A1.out (by simp)); obtain ⟨f0, f1, f2, f3, f4⟩ := rp_cells (hq.heap A2.out (by simp)); have HQ := Lib.hid hq; clear hs hq)
      | (go_at_call 9; (with_reducible refine (awake14_any _ (by exact T2.out.same HQ.out (by simp))).mono ?_); rintro e w' ⟨rfl, hs⟩; have HA := Lib.hid hs; clear hs))
    all_goals (go_wp2_with fail)
    all_goals go_ret
    all_goals exact ⟨by first | rfl | simp, S2.out.trans_nil (HQ.out.trans_nil HA.out)⟩

end Go.Proofs.YtkjdfgmmmmjhlaaDoor
