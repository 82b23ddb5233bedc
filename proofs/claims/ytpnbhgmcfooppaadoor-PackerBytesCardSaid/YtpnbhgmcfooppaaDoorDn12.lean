/- Feeding a packet, in the reference, whatever packet; what is held stays little; New, Plain, texts. Conditions: what is held is not too much. -/
import Derived.Test.YtpnbhgmcfooppaaDoorDn9
import Derived.Test.YtpnbhgmcfooppaaDoorDn11
import Derived.LoopN
namespace Go.Proofs.YtpnbhgmcfooppaaDoor
open Go.RowKit
set_option linter.unusedSimpArgs false
set_option linter.unusedVariables false

theorem take_hold (h : ByteArray) : (takeG h.size h).hold.size ≤ h.size := (takeG_len h.size h).2
theorem onward_ok {S : JS} {n : Nat} (h : JOk S n) (s : ByteArray) (err : Int) (m : Nat) (hm : S.hold.size + s.size ≤ m) (hl : S.lost ≤ m) : JOk (onwardG S s err).st m := by
  obtain ⟨h1, h2, h3, h4⟩ := h
  unfold onwardG
  split
  · have := take_hold (S.hold ++ s)
    rw [ByteArray.size_append] at this
    refine ⟨h1, ?_, h3, hl⟩
    show (takeG (S.hold ++ s).size (S.hold ++ s)).hold.size ≤ m
    rw [ByteArray.size_append]
    omega
  · exact ⟨h1, by show S.hold.size ≤ m; omega, h3, hl⟩
theorem body_ok {S : JS} {n : Nat} (h : JOk S n) (err : Int) (st : Bool) (body : ByteArray) (hb : body.size ≤ 184) : JOk (bodyG S err st body).st (n + 200) := by
  obtain ⟨h1, h2, h3, h4⟩ := id h
  unfold bodyG
  split
  · exact onward_ok h body err (n + 200) (by omega) (by omega)
  · split
    · refine ⟨h1, ?_, h3, ?_⟩
      · show 0 ≤ _; omega
      · show S.lost ≤ _; omega
    · rename_i hst hle
      have hz1 : (body.extract 1 body.size).size ≤ 184 := by rw [ByteArray.size_extract]; omega
      have ho := onward_ok h ((body.extract 1 body.size).extract 0 (byteOf body 0)) err (n + 200) (by rw [ByteArray.size_extract]; omega) (by omega)
      obtain ⟨o1, o2, o3, o4⟩ := ho
      unfold beginG
      refine ⟨o1, ?_, o3, o4⟩
      have := take_hold ((⟨#[]⟩ : ByteArray) ++ (body.extract 1 body.size).extract (byteOf body 0) (body.extract 1 body.size).size)
      refine Nat.le_trans this ?_
      rw [ByteArray.size_append, ByteArray.size_extract]
      show 0 + _ ≤ _
      omega
theorem next_ok {S : JS} {n : Nat} (h : JOk S n) {c : Int} {body : ByteArray} (h0 : 0 ≤ c) (h1 : c ≤ 15) (hz : ¬ body.size = 0) : JOk (nextS S c body) (n + 1) := by
  obtain ⟨g1, g2, g3, g4⟩ := h
  unfold nextS
  split
  · refine ⟨fun p hp => by cases hp; exact ⟨hz, h0, h1⟩, ?_, ?_, ?_⟩
    · show 0 ≤ _; omega
    · show 0 ≤ S.lost + 1; omega
    · show S.lost + 1 ≤ _; omega
  · exact ⟨fun p hp => by cases hp; exact ⟨hz, h0, h1⟩, by show S.hold.size ≤ _; omega, g3, by show S.lost ≤ _; omega⟩
theorem JOk.more {S : JS} {n m : Nat} (h : JOk S n) (hm : n ≤ m) : JOk S m := ⟨h.1, Nat.le_trans h.2.1 hm, h.2.2.1, by have := h.2.2.2; omega⟩
theorem feed_ok {S : JS} {n : Nat} (h : JOk S n) (pid pp : Int) (st : Bool) (c : Int) (bad : Bool) (body : ByteArray) : JOk (feedG pid S pp st c bad body).st (n + 300) := by
  by_cases hc : chkG pp c body = 0
  · obtain ⟨r0, r1, r2⟩ := chk_range hc
    by_cases hp : pp = pid
    · by_cases hz : body.size = 0
      · unfold feedG; rw [if_neg (by simpa using hc), if_neg (by simpa using hp), if_pos (.inl hz)]; exact h.more (by omega)
      · by_cases hs : S.seen = some (c, body)
        · unfold feedG; rw [if_neg (by simpa using hc), if_neg (by simpa using hp), if_pos (.inr hs)]; exact h.more (by omega)
        · cases bad with
          | true =>
            unfold feedG; rw [if_neg (by simpa using hc), if_neg (by simpa using hp), if_neg (by rintro (e | e); exact hz e; exact hs e), if_pos rfl]
            obtain ⟨g1, g2, g3, g4⟩ := h
            refine ⟨(fun p (hp : (none : Option (Int × ByteArray)) = some p) => nomatch hp), ?_, ?_, ?_⟩
            · show 0 ≤ _; omega
            · show 0 ≤ S.lost + 1; omega
            · show S.lost + 1 ≤ _; omega
          | false =>
            subst hp
            rw [feed_main hc hz hs]
            exact (body_ok (next_ok h r0 r1 hz) _ _ _ r2).more (by omega)
    · unfold feedG; rw [if_neg (by simpa using hc), if_pos hp]; exact h.more (by omega)
  · unfold feedG; rw [if_pos hc]; exact h.more (by omega)

/-! New, Plain, texts. -/
def newS : JS := ⟨⟨#[]⟩, false, none, 0⟩
theorem new_ok : JOk newS 0 := ⟨(fun p (hp : (none : Option (Int × ByteArray)) = some p) => nomatch hp), Nat.le_refl _, Int.le_refl _, Int.le_refl _⟩
theorem jnew_ok (pid : Int) (w : World) (h0 : 0 ≤ pid) (h1 : pid < 8191) : Calls Tryd.prog 7 #[.int .i64 pid] w fun e w' => e = .returned (.tuple #[.pointer (some ⟨w.heap.size, 0, none⟩), .int .i64 0]) ∧ w.alloc (.cells (jV pid ⟨#[]⟩ false 0 ⟨#[]⟩ 0) 59) = w' := by
  go_enter Tryd.func7, Tryd.ntmps7
  go_wp2
  go_ret2
  exact ⟨rfl, rfl⟩
theorem jnew_bad (pid : Int) (w : World) (h : pid < 0 ∨ (0 ≤ pid ∧ 8191 ≤ pid)) : Calls Tryd.prog 7 #[.int .i64 pid] w fun e w' => e = .returned (.tuple #[.pointer none, .int .i64 15]) ∧ w = w' := by
  rcases h with h | ⟨h, h2⟩
  all_goals
    go_enter Tryd.func7, Tryd.ntmps7
    go_wp2
    go_ret2
    exact ⟨rfl, rfl⟩

/-- Are two lists the same? (Where they are.) -/
def TrueAt (w : World) (e : Ending) (w' : World) : Prop := e = .returned (.bool true) ∧ Same [] w w'
set_option maxHeartbeats 1000000 in
theorem texts_same (L : List ByteArray) (v1 v2 : Value) (w : World) (h1 : Reads w 1 v1 L.length (strVals L)) (h2 : Reads w 1 v2 L.length (strVals L)) (hn : L.length < 1099511627776) :
    Calls Tryd.prog 15 #[v1, v2] w (TrueAt w) := by
  by_cases h0 : L.length = 0
  · have hv : ∀ v, Reads w 1 v L.length (strVals L) → ∃ a c, v = .slice a 0 c := fun v h => by
      rcases h.2 with ⟨a, c, rfl, _⟩ | ⟨rfl, _⟩
      · exact ⟨_, _, by rw [h0]⟩
      · exact ⟨_, _, rfl⟩
    obtain ⟨a1, k1, rfl⟩ := hv v1 h1
    obtain ⟨a2, k2, rfl⟩ := hv v2 h2
    clear hv h1 h2
    go_enter Tryd.func15, Tryd.ntmps15
    go_wp2_with fail
    refine wp_loop_rounds 1 ?_
    rw [rounds_succ]
    go_wp2_with fail
    go_ret
    exact ⟨rfl, Same.refl _ w⟩
  · have hv : ∀ v, Reads w 1 v L.length (strVals L) → ∃ g o c, v = .slice (some ⟨g, o, none⟩) L.length c ∧ ∀ j (hj : j < L.length), w.cell? ⟨g, o + j, none⟩ = some (.string L[j]) := fun v h => by
      rcases h.2 with ⟨a, c, rfl, hs, _, hc⟩ | ⟨_, h9⟩
      · obtain ⟨g, o, sp⟩ := a
        simp only at hs; subst hs
        refine ⟨g, o, c, rfl, fun j hj => ?_⟩
        have := hc j (.string L[j]) (by simp [strVals, hj])
        rwa [addr_add] at this
      · exact absurd h9 h0
    obtain ⟨g1, o1, k1, rfl, c1⟩ := hv v1 h1
    obtain ⟨g2, o2, k2, rfl, c2⟩ := hv v2 h2
    have C1 := Lib.hid c1; have C2 := Lib.hid c2
    clear hv h1 h2 c1 c2
    go_enter Tryd.func15, Tryd.ntmps15
    go_wp2_with fail
    go_loopw [5] (fun i wr => ∃ k : Nat, k ≤ L.length ∧ i = .int .i64 k ∧ Same [] w wr) (fun i _ => L.length - (intOf i).toNat)
    case atStart => exact ⟨0, by omega, rfl, Same.refl _ _⟩
    case round =>
      obtain ⟨k, hk, rfl, hs⟩ := hrel
      by_cases hk1 : k < L.length
      · have hk2 : (k : Int) < (L.length : Int) := by omega
        have d1 := hs.cell (C1.out k hk1) (by simp)
        have d2 := hs.cell (C2.out k hk1) (by simp)
        generalize L[k] = x at *
        have HS := Lib.hid hs
        have hxx : (x.toList == x.toList) = true := by simp
        have hxn : (x.toList != x.toList) = false := by simp
        clear hs
        go_wp2_with fail
        go_quiet (fail)
        go_wp2_with fail
        go_roundw
        case rel => exact ⟨k + 1, by omega, by go_num, HS.out.trans_nil (Same.drewN _ _)⟩
        case measure => simp [intOf]; omega
      · have hk2 : ¬ (k : Int) < (L.length : Int) := by omega
        go_wp2_with fail
        go_ret
        exact ⟨rfl, hs⟩

end Go.Proofs.YtpnbhgmcfooppaaDoor
