/- Parts of the walk of JoinerBytes: joiner.Bytes, Drop, texts. Conditions: the table 'widths' (block 0) holds what its initialiser lays; what is held is not too much. -/
import Derived.Test.YtpnbhgmcfooppaaDoorPk1
import Derived.Test.YtpnbhgmcfooppaaDoorDn13
namespace Go.Proofs.YtpnbhgmcfooppaaDoor
open Go.RowKit
set_option linter.unusedSimpArgs false
set_option linter.unusedVariables false

set_option maxHeartbeats 1000000 in
/-- texts, where the lists are the same: it only reads. -/
theorem texts_quiet (L : List ByteArray) (v1 v2 : Value) (w : World) (h1 : Reads w 1 v1 L.length (strVals L)) (h2 : Reads w 1 v2 L.length (strVals L)) (hn : L.length < 4611686018427387904) :
    Calls Tryd.prog 15 #[v1, v2] w fun e w' => e = .returned (.bool true) ∧ ∃ m, w' = w.drewN m := by
  by_cases h0 : L.length = 0
  · have hv : ∀ v, Reads w 1 v L.length (strVals L) → ∃ a c, v = .slice a 0 c := fun v h => by
      rcases h.2 with ⟨a, c, rfl, _⟩ | ⟨rfl, _⟩
      · exact ⟨_, _, by rw [h0]⟩
      · exact ⟨_, _, rfl⟩
    obtain ⟨a1, k1, rfl⟩ := hv v1 h1
    obtain ⟨a2, k2, rfl⟩ := hv v2 h2
    clear hv h1 h2
    go_enter Tryd.func15, Tryd.ntmps15
    go_wp2_with fail
    refine wp_loop_rounds 1 ?_
    rw [rounds_succ]
    go_wp2_with fail
    go_ret
    exact ⟨rfl, 0, rfl⟩
  · obtain ⟨g1, o1, k1, rfl, c1⟩ := reads_some h1 h0
    obtain ⟨g2, o2, k2, rfl, c2⟩ := reads_some h2 h0
    have C1 := Lib.hid c1; have C2 := Lib.hid c2
    clear h1 h2 c1 c2
    go_enter Tryd.func15, Tryd.ntmps15
    go_wp2_with fail
    go_loopw [5] (fun i wr => ∃ (k m : Nat), k ≤ L.length ∧ i = .int .i64 k ∧ wr = w.drewN m) (fun i _ => L.length - (intOf i).toNat)
    case atStart => exact ⟨0, 0, by omega, rfl, rfl⟩
    case round =>
      obtain ⟨k, m, hk, rfl, hw⟩ := hrel
      have hs : Same [] w wr := by rw [hw]; exact Same.drewN _ _
      by_cases hk1 : k < L.length
      · have hk2 : (k : Int) < (L.length : Int) := by omega
        have d1 := hs.cell (C1.out k hk1) (by simp)
        have d2 := hs.cell (C2.out k hk1) (by simp)
        generalize L[k] = x at *
        have HW := Lib.hid hw
        have hxx : (x.toList == x.toList) = true := by simp
        have hxn : (x.toList != x.toList) = false := by simp
        clear hs hw
        go_wp2_with fail
        go_quiet (fail)
        go_wp2_with fail
        go_roundw
        case rel => exact ⟨k + 1, m + nq, by omega, by go_num, by rw [HW.out, World.drewN_drewN]⟩
        case measure => simp [intOf]; omega
      · have hk2 : ¬ (k : Int) < (L.length : Int) := by omega
        have HW := Lib.hid hw
        clear hw hs
        go_wp2_with fail
        go_ret
        exact ⟨rfl, m, HW.out⟩

theorem begin_len (S : JS) (s : ByteArray) (outs : List ByteArray) (err : Int) : (beginG S s outs err).outs.length ≤ outs.length + s.size := by
  unfold beginG
  have := (takeG_len ((⟨#[]⟩ : ByteArray) ++ s).size (⟨#[]⟩ ++ s)).1
  rw [List.length_append]
  have hz : ((⟨#[]⟩ : ByteArray) ++ s).size = s.size := by rw [ByteArray.size_append]; show 0 + _ = _; omega
  rw [hz] at this ⊢
  omega
theorem body_len (S : JS) (err : Int) (st : Bool) (body : ByteArray) : (bodyG S err st body).outs.length ≤ S.hold.size + 2 * body.size := by
  unfold bodyG
  split
  · have := onward_len S body err; omega
  · split
    · exact Nat.zero_le _
    · refine Nat.le_trans (begin_len _ _ _ _) ?_
      have h1 := onward_len S ((body.extract 1 body.size).extract 0 (byteOf body 0)) err
      have h2 : ((body.extract 1 body.size).extract 0 (byteOf body 0)).size ≤ body.size := by rw [ByteArray.size_extract, ByteArray.size_extract]; omega
      have h3 : ((body.extract 1 body.size).extract (byteOf body 0) (body.extract 1 body.size).size).size ≤ body.size := by rw [ByteArray.size_extract, ByteArray.size_extract]; omega
      omega
theorem feed_len {S : JS} {n : Nat} (h : JOk S n) (pid pp : Int) (st : Bool) (c : Int) (bad : Bool) (body : ByteArray) : (feedG pid S pp st c bad body).outs.length ≤ n + 600 := by
  unfold feedG
  split
  · exact Nat.zero_le _
  rename_i hc
  obtain ⟨_, _, r2⟩ := chk_range (by simpa using hc)
  split
  · exact Nat.zero_le _
  split
  · exact Nat.zero_le _
  split
  · exact Nat.zero_le _
  split
  · have := body_len ⟨⟨#[]⟩, false, some (c, body), S.lost + 1⟩ 21 st body
    have h0 : (JS.hold ⟨⟨#[]⟩, false, some (c, body), S.lost + 1⟩).size = 0 := rfl
    omega
  · have := body_len ⟨S.hold, S.fol, some (c, body), S.lost⟩ 0 st body
    have h0 := h.2.1
    have h1 : (JS.hold ⟨S.hold, S.fol, some (c, body), S.lost⟩).size = S.hold.size := rfl
    omega

theorem reads_quiet {w : World} {v : Value} {n m : Nat} {ys : List Value} (h : Reads w 1 v n ys) : Reads (w.drewN m) 1 v n ys := by
  refine ⟨h.1, ?_⟩
  rcases h.2 with ⟨a, c, rfl, hs, hc, hx⟩ | h0
  · exact .inl ⟨a, c, rfl, hs, hc, fun j u hj => hx j u hj⟩
  · exact .inr h0


theorem IsJS.same {A B : World} {b : Nat} {pid : Int} {S : JS} {T : List Nat} (h : IsJS A b pid S) (hs : Same T A B) (hb : b ∉ T) : IsJS B b pid S := hs.heap h hb
theorem decode_ok (s : ByteArray) (w : World) (ht : Tab w) (h : decE s = 0) : Calls Tryd.prog 26 #[.string s] w fun e w' => e = .returned (.tuple #[.agg #[.int .i64 (byteOf s 1 % 32 * 256 + byteOf s 2 : Nat), .bool (byteOf s 1 / 64 % 2 == 1), .int .i64 (byteOf s 3 % 16 : Nat), .bool (byteOf s 1 / 128 == 1), .string (decB s)], .int .i64 0]) ∧ Same [] w w' :=
  (decode_any s w ht).mono fun e w' ⟨h1, h2⟩ => ⟨by rw [h2, if_pos h, h]; rfl, h1⟩
theorem decode_bad (s : ByteArray) (w : World) (ht : Tab w) (h : decE s ≠ 0) : Calls Tryd.prog 26 #[.string s] w fun e w' => e = .returned (.tuple #[.agg #[.int .i64 0, .bool false, .int .i64 0, .bool false, .string ⟨#[]⟩], .int .i64 (decE s)]) ∧ Same [] w w' :=
  (decode_any s w ht).mono fun e w' ⟨h1, h2⟩ => ⟨by rw [h2, if_neg h]; rfl, h1⟩

/-- What 188 bytes answer. -/
def bytesG (pid : Int) (S : JS) (s : ByteArray) : Fd :=
  if decE s = 0 then feedG pid S (byteOf s 1 % 32 * 256 + byteOf s 2 : Nat) (byteOf s 1 / 64 % 2 == 1) (byteOf s 3 % 16 : Nat) (byteOf s 1 / 128 == 1) (decB s) else ⟨S, [], decE s⟩
theorem jbytes_bad {w : World} {b : Nat} {pid : Int} {S : JS} (s : ByteArray) (hj : IsJS w b pid S) (ht : Tab w) (h : decE s ≠ 0) :
    Calls Tryd.prog 12 #[.pointer (some ⟨b, 0, none⟩), .string s] w (FdPost w b pid ⟨S, [], decE s⟩) := by
  have HD := Lib.hid (decode_bad s w ht h)
  have HJ := Lib.hid hj
  have hne : (decE s != 0) = true := by simp; exact h
  clear hj ht h
  generalize decE s = d at *
  go_enter Tryd.func12, Tryd.ntmps12
  go_wp2_with fail
  (with_reducible refine HD.out.mono ?_)
  rintro e w1 ⟨rfl, s1⟩
  have S1 := Lib.hid s1
  clear s1 HD
  go_wp2_with fail
  go_ret2
  refine ⟨_, rfl, ⟨⟨rfl, .inl ⟨rfl, rfl⟩⟩, fun k hk => by simp [Value.ownBlock] at hk⟩, HJ.out.same (S1.out.alloc _) (by simp), (S1.out.alloc _).mono (by simp)⟩
set_option maxRecDepth 100000 in
theorem jbytes_ok {w : World} {b : Nat} {pid : Int} {S : JS} {n : Nat} (s : ByteArray) (hj : IsJS w b pid S) (hk : JOk S n) (hn : n < 1000000000000) (ht : Tab w) (h : decE s = 0) :
    Calls Tryd.prog 12 #[.pointer (some ⟨b, 0, none⟩), .string s] w (FdPost w b pid (feedG pid S (byteOf s 1 % 32 * 256 + byteOf s 2 : Nat) (byteOf s 1 / 64 % 2 == 1) (byteOf s 3 % 16 : Nat) (byteOf s 1 / 128 == 1) (decB s))) := by
  have HD := Lib.hid (decode_ok s w ht h)
  have HF := Lib.hid (fun (pp : Int) st c bad body W (hJ : IsJS W b pid S) => jfeed_any pp st c bad body hJ hk hn)
  have HJ := Lib.hid hj
  clear hj hk hn ht h
  generalize ((byteOf s 1 % 32 * 256 + byteOf s 2 : Nat) : Int) = x0 at *
  generalize (byteOf s 1 / 64 % 2 == 1) = x1 at *
  generalize ((byteOf s 3 % 16 : Nat) : Int) = x2 at *
  generalize (byteOf s 1 / 128 == 1) = x3 at *
  generalize decB s = x4 at *
  go_enter Tryd.func12, Tryd.ntmps12
  go_wp2_with fail
  (with_reducible refine HD.out.mono ?_)
  rintro e w1 ⟨rfl, s1⟩
  have S1 := Lib.hid s1
  clear s1 HD
  go_wp2_with fail
  (with_reducible refine (HF.out _ _ _ _ _ _ (HJ.out.same (S1.out.alloc _) (by simp))).mono ?_)
  rintro e w2 ⟨v, rfl, n2, j2, s2⟩
  have N2 := Lib.hid n2; have J2 := Lib.hid j2; have S2 := Lib.hid s2
  clear n2 j2 s2 HF HJ
  go_wp2_with fail
  go_ret2
  have hsz := (S1.out.alloc (.cells #[.int .i64 x0, .bool x1, .int .i64 x2, .bool x3, .string x4] 37)).size
  exact ⟨v, rfl, ⟨N2.out.1, fun k hk => Nat.le_trans hsz (N2.out.2 k hk)⟩, J2.out, ((S1.out.alloc _).mono (T := [b]) (by simp)).trans S2.out (fun x hx _ => hx)⟩
theorem jbytes_any {w : World} {b : Nat} {pid : Int} {S : JS} {n : Nat} (s : ByteArray) (hj : IsJS w b pid S) (hk : JOk S n) (hn : n < 1000000000000) (ht : Tab w) :
    Calls Tryd.prog 12 #[.pointer (some ⟨b, 0, none⟩), .string s] w (FdPost w b pid (bytesG pid S s)) := by
  unfold bytesG
  by_cases h : decE s = 0
  · rw [if_pos h]; exact jbytes_ok s hj hk hn ht h
  · rw [if_neg h]; exact jbytes_bad s hj ht h

/-- What is left behind a Drop. -/
def dropS (S : JS) : JS := ⟨⟨#[]⟩, false, none, S.lost⟩
theorem drop_ok {S : JS} {n : Nat} (h : JOk S n) : JOk (dropS S) n := ⟨(fun p (hp : (none : Option (Int × ByteArray)) = some p) => nomatch hp), Nat.zero_le _, h.2.2.1, h.2.2.2⟩
theorem jdrop_any {w : World} {b : Nat} {pid : Int} {S : JS} (h : IsJS w b pid S) : Calls Tryd.prog 10 #[.pointer (some ⟨b, 0, none⟩)] w fun e w' => e = .returned (.tuple #[]) ∧ IsJS w' b pid (dropS S) ∧ Same [b] w w' :=
  drop_any h

/-- A slice of strings. -/
def StrsAt (w : World) (v : Value) (xs : List ByteArray) : Prop :=
  ∃ ad c, v = .slice ad xs.length c ∧ xs.length ≤ c ∧ c ≤ maxLen ∧ ∀ (i : Nat) (h : i < xs.length), ∃ a : Addr, ad = some a ∧ a.spot = none ∧ w.cell? ⟨a.block, a.off + i, none⟩ = some (.string xs[i])

end Go.Proofs.YtpnbhgmcfooppaaDoor
