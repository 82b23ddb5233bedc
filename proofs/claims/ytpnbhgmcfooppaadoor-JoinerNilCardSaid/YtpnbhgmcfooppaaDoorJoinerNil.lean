/- The walk of the law JoinerNil: whatever packet, it answers true. No condition. -/
import Derived.Test.YtpnbhgmcfooppaaDoorDn13
namespace Go.Proofs.YtpnbhgmcfooppaaDoor
open Go.RowKit
set_option linter.unusedSimpArgs false
set_option linter.unusedVariables false

set_option maxRecDepth 100000 in
theorem feed_nil (pp : Int) (st : Bool) (c : Int) (bad : Bool) (body : ByteArray) (w : World) :
    Calls Tryd.prog 14 #[.pointer none, .agg #[.int .i64 pp, .bool st, .int .i64 c, .bool bad, .string body]] w fun e w' => e = .returned (.tuple #[.slice none 0 0, .int .i64 2]) ∧ Same [] w w' := by
  go_enter Tryd.func14, Tryd.ntmps14
  go_wp2_with fail
  go_ret2
  exact ⟨rfl, (Same.refl _ w).alloc _⟩
theorem bytes_nil (s : ByteArray) (w : World) :
    Calls Tryd.prog 12 #[.pointer none, .string s] w fun e w' => e = .returned (.tuple #[.slice none 0 0, .int .i64 2]) ∧ w = w' := by
  go_enter Tryd.func12, Tryd.ntmps12
  go_wp2_with fail
  go_ret2
  exact ⟨rfl, rfl⟩
theorem drop_nil (w : World) : Calls Tryd.prog 10 #[.pointer none] w fun e w' => e = .returned (.tuple #[]) ∧ w = w' := by
  go_enter Tryd.func10, Tryd.ntmps10
  go_wp2_with fail
  go_end0
  exact ⟨rfl, rfl⟩
theorem held_nil (w : World) : Calls Tryd.prog 11 #[.pointer none] w fun e w' => e = .returned (.string ⟨#[]⟩) ∧ w = w' := by
  go_enter Tryd.func11, Tryd.ntmps11
  go_wp2_with fail
  go_ret
  exact ⟨rfl, rfl⟩
theorem lost_nil (w : World) : Calls Tryd.prog 9 #[.pointer none] w fun e w' => e = .returned (.int .i64 0) ∧ w = w' := by
  go_enter Tryd.func9, Tryd.ntmps9
  go_wp2_with fail
  go_ret
  exact ⟨rfl, rfl⟩

set_option maxRecDepth 100000 in
set_option maxHeartbeats 2000000 in
theorem joinerNil_any (pp : Int) (st : Bool) (c : Int) (bad : Bool) (body : ByteArray) (w : World) :
    Calls Tryd.prog 4 #[.agg #[.int .i64 pp, .bool st, .int .i64 c, .bool bad, .string body]] w (AwakePost w) := by
  obtain ⟨p0, p1, p2, p3, p4⟩ := pkt_cells (heap_alloc_new w (.cells #[.int .i64 pp, .bool st, .int .i64 c, .bool bad, .string body] 37))
  have TB := Lib.hid (heap_alloc_new w (.cells #[.int .i64 pp, .bool st, .int .i64 c, .bool bad, .string body] 37))
  have hs0 : Same [] w (w.alloc (.cells #[.int .i64 pp, .bool st, .int .i64 c, .bool bad, .string body] 37)) := (Same.refl [] w).alloc _
  have HS0 := Lib.hid hs0
  clear hs0
  by_cases hb : 300 < body.size
  · have hb2 : (300 : Int) < (body.size : Int) := by omega
    go_enter Tryd.func4, Tryd.ntmps4
    go_wp2_with (go_at_call 8; (with_reducible refine (awake_any _).mono ?_); rintro e w' ⟨rfl, hs⟩; have HA := Lib.hid hs; clear hs)
    go_ret
    exact ⟨rfl, HS0.out.trans_nil HA.out⟩
  · have hb2 : ¬ (300 : Int) < (body.size : Int) := by omega
    go_enter Tryd.func4, Tryd.ntmps4
    go_wp2_with fail
    (with_reducible refine (feed_nil pp st c bad body _).mono ?_)
    rintro e w1 ⟨rfl, s1⟩
    have t1 := s1.heap TB.out (by simp)
    have S1 := Lib.hid (HS0.out.trans_nil s1)
    clear p0 p1 p2 p3 p4 s1
    obtain ⟨p0, p1, p2, p3, p4⟩ := pkt_cells t1
    clear t1
    go_wp2_with (first
      | (go_at_call 12; (with_reducible refine (bytes_nil _ _).mono ?_); rintro e w' ⟨rfl, rfl⟩)
      | (go_at_call 10; (with_reducible refine (drop_nil _).mono ?_); rintro e w' ⟨rfl, rfl⟩)
      | (go_at_call 11; (with_reducible refine (held_nil _).mono ?_); rintro e w' ⟨rfl, rfl⟩)
      | (go_at_call 9; (with_reducible refine (lost_nil _).mono ?_); rintro e w' ⟨rfl, rfl⟩)
      | (go_at_call 8; (with_reducible refine (awake_any _).mono ?_); rintro e w' ⟨rfl, hs⟩; have HA := Lib.hid hs; clear hs))
    go_ret
    exact ⟨rfl, S1.out.trans_nil HA.out⟩

end Go.Proofs.YtpnbhgmcfooppaaDoor
