/- The walk of the law JoinerFeeds: whatever number of a stream and packets, it answers true. No condition. -/
import Derived.Test.YtpnbhgmcfooppaaJn13
import Derived.Test.YtpnbhgmcfooppaaOpenPkts
namespace Go.Proofs.Ytpnbhgmcfooppaa
open Go.RowKit
set_option linter.unusedSimpArgs false
set_option linter.unusedVariables false

set_option maxHeartbeats 1000000 in
/-- texts, where the lists are the same: it only reads. -/
theorem texts_quiet (L : List ByteArray) (v1 v2 : Value) (w : World) (h1 : Reads w 1 v1 L.length (strVals L)) (h2 : Reads w 1 v2 L.length (strVals L)) (hn : L.length < 4611686018427387904) :
    Calls Try.prog 14 #[v1, v2] w fun e w' => e = .returned (.bool true) ∧ ∃ m, w' = w.drewN m := by
  by_cases h0 : L.length = 0
  · have hv : ∀ v, Reads w 1 v L.length (strVals L) → ∃ a c, v = .slice a 0 c := fun v h => by
      rcases h.2 with ⟨a, c, rfl, _⟩ | ⟨rfl, _⟩
      · exact ⟨_, _, by rw [h0]⟩
      · exact ⟨_, _, rfl⟩
    obtain ⟨a1, k1, rfl⟩ := hv v1 h1
    obtain ⟨a2, k2, rfl⟩ := hv v2 h2
    clear hv h1 h2
    go_enter Try.func14, Try.ntmps14
    go_wp2_with fail
    refine wp_loop_rounds 1 ?_
    rw [rounds_succ]
    go_wp2_with fail
    go_ret
    exact ⟨rfl, 0, rfl⟩
  · obtain ⟨g1, o1, k1, rfl, c1⟩ := reads_some h1 h0
    obtain ⟨g2, o2, k2, rfl, c2⟩ := reads_some h2 h0
    have C1 := Lib.hid c1; have C2 := Lib.hid c2
    clear h1 h2 c1 c2
    go_enter Try.func14, Try.ntmps14
    go_wp2_with fail
    go_loopw [5] (fun i wr => ∃ (k m : Nat), k ≤ L.length ∧ i = .int .i64 k ∧ wr = w.drewN m) (fun i _ => L.length - (intOf i).toNat)
    case atStart => exact ⟨0, 0, by omega, rfl, rfl⟩
    case round =>
      obtain ⟨k, m, hk, rfl, hw⟩ := hrel
      have hs : Same [] w wr := by rw [hw]; exact Same.drewN _ _
      by_cases hk1 : k < L.length
      · have hk2 : (k : Int) < (L.length : Int) := by omega
        have d1 := hs.cell (C1.out k hk1) (by simp)
        have d2 := hs.cell (C2.out k hk1) (by simp)
        generalize L[k] = x at *
        have HW := Lib.hid hw
        have hxx : (x.toList == x.toList) = true := by simp
        have hxn : (x.toList != x.toList) = false := by simp
        clear hs hw
        go_wp2_with fail
        go_quiet (fail)
        go_wp2_with fail
        go_roundw
        case rel => exact ⟨k + 1, m + nq, by omega, by go_num, by rw [HW.out, World.drewN_drewN]⟩
        case measure => simp [intOf]; omega
      · have hk2 : ¬ (k : Int) < (L.length : Int) := by omega
        have HW := Lib.hid hw
        clear hw hs
        go_wp2_with fail
        go_ret
        exact ⟨rfl, m, HW.out⟩

theorem begin_len (S : JS) (s : ByteArray) (outs : List ByteArray) (err : Int) : (beginG S s outs err).outs.length ≤ outs.length + s.size := by
  unfold beginG
  have := (takeG_len ((⟨#[]⟩ : ByteArray) ++ s).size (⟨#[]⟩ ++ s)).1
  rw [List.length_append]
  have hz : ((⟨#[]⟩ : ByteArray) ++ s).size = s.size := by rw [ByteArray.size_append]; show 0 + _ = _; omega
  rw [hz] at this ⊢
  omega
theorem body_len (S : JS) (err : Int) (st : Bool) (body : ByteArray) : (bodyG S err st body).outs.length ≤ S.hold.size + 2 * body.size := by
  unfold bodyG
  split
  · have := onward_len S body err; omega
  · split
    · exact Nat.zero_le _
    · refine Nat.le_trans (begin_len _ _ _ _) ?_
      have h1 := onward_len S ((body.extract 1 body.size).extract 0 (byteOf body 0)) err
      have h2 : ((body.extract 1 body.size).extract 0 (byteOf body 0)).size ≤ body.size := by rw [ByteArray.size_extract, ByteArray.size_extract]; omega
      have h3 : ((body.extract 1 body.size).extract (byteOf body 0) (body.extract 1 body.size).size).size ≤ body.size := by rw [ByteArray.size_extract, ByteArray.size_extract]; omega
      omega
theorem feed_len {S : JS} {n : Nat} (h : JOk S n) (pid pp : Int) (st : Bool) (c : Int) (bad : Bool) (body : ByteArray) : (feedG pid S pp st c bad body).outs.length ≤ n + 600 := by
  unfold feedG
  split
  · exact Nat.zero_le _
  rename_i hc
  obtain ⟨_, _, r2⟩ := chk_range (by simpa using hc)
  split
  · exact Nat.zero_le _
  split
  · exact Nat.zero_le _
  split
  · exact Nat.zero_le _
  split
  · have := body_len ⟨⟨#[]⟩, false, some (c, body), S.lost + 1⟩ 21 st body
    have h0 : (JS.hold ⟨⟨#[]⟩, false, some (c, body), S.lost + 1⟩).size = 0 := rfl
    omega
  · have := body_len ⟨S.hold, S.fol, some (c, body), S.lost⟩ 0 st body
    have h0 := h.2.1
    have h1 : (JS.hold ⟨S.hold, S.fol, some (c, body), S.lost⟩).size = S.hold.size := rfl
    omega

theorem reads_quiet {w : World} {v : Value} {n m : Nat} {ys : List Value} (h : Reads w 1 v n ys) : Reads (w.drewN m) 1 v n ys := by
  refine ⟨h.1, ?_⟩
  rcases h.2 with ⟨a, c, rfl, hs, hc, hx⟩ | h0
  · exact .inl ⟨a, c, rfl, hs, hc, fun j u hj => hx j u hj⟩
  · exact .inr h0

/-- The number of the stream may not be. -/
theorem feeds_bad (pid : Int) (v : Value) (w : World) (h : pid < 0 ∨ (0 ≤ pid ∧ 8191 ≤ pid)) :
    Calls Try.prog 3 #[.int .i64 pid, v] w (AwakePost w) := by
  have hd : pid < 0 ∨ (0 ≤ pid ∧ (8190 : Int) < pid) := by omega
  have HN := Lib.hid (fun W => jnew_bad pid W h)
  clear h
  rcases hd with h | ⟨h, h2⟩
  all_goals
    go_enter Try.func3, Try.ntmps3
    go_wp2_with fail
    (with_reducible refine (HN.out _).mono ?_)
    rintro e w1 ⟨rfl, rfl⟩
    go_wp2_with (go_at_call 10; (with_reducible refine (awake_any _).mono ?_); rintro e w' ⟨rfl, hs⟩; have HS := Lib.hid hs; clear hs)
    go_ret
    exact ⟨rfl, HS.out⟩

set_option maxRecDepth 100000 in
set_option maxHeartbeats 8000000 in
theorem feeds_ok (pid : Int) (v : Value) (ps : List PkD) (w : World) (h0 : 0 ≤ pid) (h1 : pid ≤ 8190) (hp : PktsAt w v ps) :
    Calls Try.prog 3 #[.int .i64 pid, v] w (AwakePost w) := by
  obtain ⟨ad, cp, rfl, hlc, hcm, hcell⟩ := hp
  have HC := Lib.hid hcell
  have HN := Lib.hid (fun W => jnew_ok pid W h0 (by omega))
  clear hcell
  go_enter Try.func3, Try.ntmps3
  go_wp2_with fail
  (with_reducible refine (HN.out _).mono ?_)
  rintro e w1 ⟨rfl, rfl⟩
  have hj : IsJS (w.alloc (.cells (jV pid ⟨#[]⟩ false 0 ⟨#[]⟩ 0) 62)) w.heap.size pid newS := heap_alloc_new w _
  have hs : Same [] w (w.alloc (.cells (jV pid ⟨#[]⟩ false 0 ⟨#[]⟩ 0) 62)) := (Same.refl [] w).alloc _
  have hsz : (w.alloc (.cells (jV pid ⟨#[]⟩ false 0 ⟨#[]⟩ 0) 62)).heap.size = w.heap.size + 1 := World.size_alloc _ _
  generalize w.alloc (.cells (jV pid ⟨#[]⟩ false 0 ⟨#[]⟩ 0) 62) = w1 at *
  have HJ := Lib.hid hj; have HS := Lib.hid hs; have HZ := Lib.hid hsz
  clear hj hs HN hsz
  by_cases hl : 60 < ps.length
  · have hl2 : (60 : Int) < (ps.length : Int) := by omega
    go_wp2_with (go_at_call 10; (with_reducible refine (awake_any _).mono ?_); rintro e w' ⟨rfl, hs⟩; have HS2 := Lib.hid hs; clear hs)
    go_ret
    exact ⟨rfl, HS.out.trans_nil HS2.out⟩
  · have hl2 : ¬ (60 : Int) < (ps.length : Int) := by omega
    go_wp2_with fail
    have hr : IsRS (w1.alloc (.cells (rV pid ⟨#[]⟩ false false 0 ⟨#[]⟩ 0) 30)) w1.heap.size pid newS := ⟨0, ⟨#[]⟩, (fun p (hp : (none : Option (Int × ByteArray)) = some p) => nomatch hp), heap_alloc_new w1 _⟩
    have hs2 : Same [] w1 (w1.alloc (.cells (rV pid ⟨#[]⟩ false false 0 ⟨#[]⟩ 0) 30)) := (Same.refl [] w1).alloc _
    obtain ⟨B, hB⟩ : ∃ B, B = w1.heap.size := ⟨_, rfl⟩
    rw [← hB] at hr ⊢
    have hB2 : w.heap.size < B := by rw [hB]; have := HZ.out; omega
    change IsRS (w1.alloc (.cells #[.int .i64 pid, .string ⟨#[]⟩, .bool false, .bool false, .int .i64 0, .string ⟨#[]⟩, .int .i64 0] 30)) B pid newS at hr
    change Same [] w1 (w1.alloc (.cells #[.int .i64 pid, .string ⟨#[]⟩, .bool false, .bool false, .int .i64 0, .string ⟨#[]⟩, .int .i64 0] 30)) at hs2
    have hj2 : IsJS (w1.alloc (.cells #[.int .i64 pid, .string ⟨#[]⟩, .bool false, .bool false, .int .i64 0, .string ⟨#[]⟩, .int .i64 0] 30)) w.heap.size pid newS := HJ.out.same hs2 (by simp)
    generalize w1.alloc (.cells #[.int .i64 pid, .string ⟨#[]⟩, .bool false, .bool false, .int .i64 0, .string ⟨#[]⟩, .int .i64 0] 30) = w2 at *
    have HR2 := Lib.hid hr; have HJ2 := Lib.hid hj2; have HS2 := Lib.hid (HS.out.trans_nil hs2)
    clear hr hs2 hj2 hB HJ HS HZ
    go_loopw [8] (fun i wr => ∃ (k : Nat) (S : JS), k ≤ ps.length ∧ i = .int .i64 k ∧ IsJS wr w.heap.size pid S ∧ IsRS wr B pid S ∧ JOk S (300 * k) ∧ Same [] w wr) (fun i _ => ps.length - (intOf i).toNat)
    case atStart => exact ⟨0, newS, by omega, rfl, HJ2.out, HR2.out, new_ok, HS2.out⟩
    case round =>
      obtain ⟨k, S, hk, rfl, hj, hr, hok, hs⟩ := hrel
      have HJ := Lib.hid hj; have HR := Lib.hid hr; have HK := Lib.hid hok; have HS := Lib.hid hs
      clear hj hr hok hs HJ2 HR2 HS2
      by_cases hk1 : k < ps.length
      · have hk2 : (k : Int) < (ps.length : Int) := by omega
        obtain ⟨a, rfl, hsp, c0, c1, c2, c3, c4⟩ := HC.out k hk1
        obtain ⟨g, o, sp⟩ := a
        simp only at hsp c0 c1 c2 c3 c4
        subst hsp
        have hg : g < w.heap.size := World.block_lt_of_cell? w _ c0
        obtain ⟨pk, hpk⟩ : ∃ pk, pk = ps[k] := ⟨_, rfl⟩
        rw [← hpk] at c0 c1 c2 c3 c4
        clear hpk
        obtain ⟨pp, st, c, bad, body⟩ := pk
        simp only at c0 c1 c2 c3 c4
        have p0 := HS.out.cell c0 (by simp); have p1 := HS.out.cell c1 (by simp); have p2 := HS.out.cell c2 (by simp); have p3 := HS.out.cell c3 (by simp); have p4 := HS.out.cell c4 (by simp)
        have K0 := Lib.hid c0; have K1 := Lib.hid c1; have K2 := Lib.hid c2; have K3 := Lib.hid c3; have K4 := Lib.hid c4
        clear c0 c1 c2 c3 c4
        by_cases hb : 300 < body.size
        · have hb2 : (300 : Int) < (body.size : Int) := by omega
          go_wp2_with (go_at_call 10; (with_reducible refine (awake_any _).mono ?_); rintro e w' ⟨rfl, hs⟩; have HA := Lib.hid hs; clear hs)
          go_ret
          exact ⟨rfl, HS.out.trans_nil HA.out⟩
        · have hb2 : ¬ (300 : Int) < (body.size : Int) := by omega
          have HF := Lib.hid (jfeed_any pp st c bad body HJ.out HK.out (by omega))
          have HG := Lib.hid (fun W (h : IsRS W B pid S) => rfeed_any pp st c bad body h HK.out (by omega))
          have hok2 := feed_ok HK.out pid pp st c bad body
          have hfl := feed_len HK.out pid pp st c bad body
          have hBl : B < wr.heap.size := by obtain ⟨_, _, _, h⟩ := HR.out; exact heap_lt h
          have HOK := Lib.hid (show JOk (feedG pid S pp st c bad body).st (300 * (k + 1)) from hok2.more (by omega))
          clear hok2
          generalize feedG pid S pp st c bad body = r at *
          obtain ⟨rs, rl, re⟩ := r
          go_wp2_with fail
          (with_reducible refine HF.out.mono ?_)
          rintro e w3 ⟨v1, rfl, n1, j3, s3⟩
          have hsz := HS.out.size
          have S3 := Lib.hid (((HS.out.mono (T := [w.heap.size]) (by simp)).trans s3 (fun x hx _ => hx)).mono (T := []) (fun x hx hlt => by simp at hx; omega))
          have J3 := Lib.hid (show IsJS w3 w.heap.size pid rs from j3)
          have R3 := Lib.hid (HR.out.same s3 (by simp; omega))
          have O3 := Lib.hid n1
          have hsz3 := s3.size
          clear n1 j3 s3 HF p0 p1 p2 p3 p4 HJ HR
          have p0 := S3.out.cell K0.out (by simp); have p1 := S3.out.cell K1.out (by simp); have p2 := S3.out.cell K2.out (by simp); have p3 := S3.out.cell K3.out (by simp); have p4 := S3.out.cell K4.out (by simp)
          go_wp2_with fail
          (with_reducible refine (plain_any pp st c bad body _).mono ?_)
          rintro e w4 ⟨rfl, s4⟩
          have S4 := Lib.hid (S3.out.trans_nil s4)
          have J4 := Lib.hid (show IsJS w4 w.heap.size pid rs from J3.out.same s4 (by simp))
          have R4 := Lib.hid (R3.out.same s4 (by simp))
          have O4 := Lib.hid (own_same O3.out.1 s4 (by simp))
          have hsz4 := s4.size
          clear s4 J3 R3 p0 p1 p2 p3 p4
          go_wp2_with fail
          (with_reducible refine (HG.out _ R4.out).mono ?_)
          rintro e w5 ⟨v2, rfl, n2, r5, s5⟩
          have S5 := Lib.hid (((S4.out.mono (T := [B]) (by simp)).trans s5 (fun x hx _ => hx)).mono (T := []) (fun x hx hlt => by simp at hx; omega))
          have j5 : IsJS w5 w.heap.size pid rs := J4.out.same s5 (by simp; omega)
          have J5 := Lib.hid j5
          have o5 := own_same O4.out s5 (fun x hx hm => by have := O3.out.2 x hx; simp at hm; omega)
          have hrl : rl.length < 4611686018427387904 := by have h9 : rl.length ≤ 300 * k + 600 := hfl; omega
          have HT := Lib.hid (fun m => texts_quiet rl v1 v2 (w5.drewN m) (reads_quiet (Reads.of_own o5)) (reads_quiet (Reads.of_own n2.1)) hrl)
          have r5 : IsRS w5 B pid rs := r5
          have R5 := Lib.hid r5
          obtain ⟨sc, sb, _, r6⟩ := r5
          obtain ⟨⟨d0, d1, d2, d3, d4, d5, d6⟩, f1, f2, f3, f4, f5, f6⟩ := r6.cells
          have he : (re != re) = false := by simp
          have hh : (rs.hold.toList != rs.hold.toList) = false := by simp
          have hl' : (rs.lost != rs.lost) = false := by simp
          clear n2 s5 j5 o5 r6 f1 f2 f3 f4 f5 f6 HG R4 J4 hrl
          go_wp2_with fail
          go_quiet (first
            | (go_at_call 14; exact Calls.quiet_of (HT.out _))
            | (go_at_call 15; exact Calls.quiet_of_same ((held_any (show IsJ _ w.heap.size pid rs.hold rs.fol (seenC rs) (seenB rs) rs.lost from J5.out.same (Same.drewN _ _) (by simp))).mono fun e w' ⟨x1, x2⟩ => ⟨x1, x2.symm⟩))
            | (go_at_call 16; exact Calls.quiet_of_same ((lost_any (show IsJ _ w.heap.size pid rs.hold rs.fol (seenC rs) (seenB rs) rs.lost from J5.out.same (Same.drewN _ _) (by simp))).mono fun e w' ⟨x1, x2⟩ => ⟨x1, x2.symm⟩)))
          go_wp2_with fail
          go_roundw
          case rel => exact ⟨k + 1, rs, by omega, by go_num, J5.out.same (Same.drewN _ _) (by simp), R5.out.same (Same.drewN _ _) (by simp), HOK.out, S5.out.trans_nil (Same.drewN _ _)⟩
          case measure => simp [intOf]; omega
      · have hk2 : ¬ (k : Int) < (ps.length : Int) := by omega
        go_wp2_with (go_at_call 10; (with_reducible refine (awake_any _).mono ?_); rintro e w' ⟨rfl, hs⟩; have HA := Lib.hid hs; clear hs)
        go_ret
        exact ⟨rfl, HS.out.trans_nil HA.out⟩

theorem joinerFeeds_any (pid : Int) (v : Value) (ps : List PkD) (w : World) (hp : PktsAt w v ps) :
    Calls Try.prog 3 #[.int .i64 pid, v] w (AwakePost w) := by
  by_cases h : pid < 0 ∨ (0 ≤ pid ∧ 8191 ≤ pid)
  · exact feeds_bad pid v w h
  · exact feeds_ok pid v ps w (by omega) (by omega) hp

end Go.Proofs.Ytpnbhgmcfooppaa
