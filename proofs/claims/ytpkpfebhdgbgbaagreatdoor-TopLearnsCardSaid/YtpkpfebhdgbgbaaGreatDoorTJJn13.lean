/- Feeding a packet, in the reference, whatever packet; what is held stays little; New, Plain, texts. Conditions: what is held is not too much. The chapter's example (awake). No condition. -/
import Derived.Test.YtpkpfebhdgbgbaaGreatDoorTJJn10
import Derived.Test.YtpkpfebhdgbgbaaGreatDoorTJMd1
import Derived.LoopN
namespace Go.Proofs.YtpkpfebhdgbgbaaGreatDoor.J
open Go.RowKit
set_option linter.unusedSimpArgs false
set_option linter.unusedVariables false

/-! What is held stays little. -/
theorem take_hold (h : ByteArray) : (takeG h.size h).hold.size ≤ h.size := (takeG_len h.size h).2
theorem onward_ok {S : JS} {n : Nat} (h : JOk S n) (s : ByteArray) (err : Int) (m : Nat) (hm : S.hold.size + s.size ≤ m) (hl : S.lost ≤ m) : JOk (onwardG S s err).st m := by
  obtain ⟨h1, h2, h3, h4⟩ := h
  unfold onwardG
  split
  · have := take_hold (S.hold ++ s)
    rw [ByteArray.size_append] at this
    refine ⟨h1, ?_, h3, hl⟩
    show (takeG (S.hold ++ s).size (S.hold ++ s)).hold.size ≤ m
    rw [ByteArray.size_append]
    omega
  · exact ⟨h1, by show S.hold.size ≤ m; omega, h3, hl⟩
theorem body_ok {S : JS} {n : Nat} (h : JOk S n) (err : Int) (st : Bool) (body : ByteArray) (hb : body.size ≤ 184) : JOk (bodyG S err st body).st (n + 200) := by
  obtain ⟨h1, h2, h3, h4⟩ := id h
  unfold bodyG
  split
  · exact onward_ok h body err (n + 200) (by omega) (by omega)
  · split
    · refine ⟨h1, ?_, h3, ?_⟩
      · show 0 ≤ _; omega
      · show S.lost ≤ _; omega
    · rename_i hst hle
      have hz1 : (body.extract 1 body.size).size ≤ 184 := by rw [ByteArray.size_extract]; omega
      have ho := onward_ok h ((body.extract 1 body.size).extract 0 (byteOf body 0)) err (n + 200) (by rw [ByteArray.size_extract]; omega) (by omega)
      obtain ⟨o1, o2, o3, o4⟩ := ho
      unfold beginG
      refine ⟨o1, ?_, o3, o4⟩
      have := take_hold ((⟨#[]⟩ : ByteArray) ++ (body.extract 1 body.size).extract (byteOf body 0) (body.extract 1 body.size).size)
      refine Nat.le_trans this ?_
      rw [ByteArray.size_append, ByteArray.size_extract]
      show 0 + _ ≤ _
      omega
theorem next_ok {S : JS} {n : Nat} (h : JOk S n) {c : Int} {body : ByteArray} (h0 : 0 ≤ c) (h1 : c ≤ 15) (hz : ¬ body.size = 0) : JOk (nextS S c body) (n + 1) := by
  obtain ⟨g1, g2, g3, g4⟩ := h
  unfold nextS
  split
  · refine ⟨fun p hp => by cases hp; exact ⟨hz, h0, h1⟩, ?_, ?_, ?_⟩
    · show 0 ≤ _; omega
    · show 0 ≤ S.lost + 1; omega
    · show S.lost + 1 ≤ _; omega
  · exact ⟨fun p hp => by cases hp; exact ⟨hz, h0, h1⟩, by show S.hold.size ≤ _; omega, g3, by show S.lost ≤ _; omega⟩
theorem JOk.more {S : JS} {n m : Nat} (h : JOk S n) (hm : n ≤ m) : JOk S m := ⟨h.1, Nat.le_trans h.2.1 hm, h.2.2.1, by have := h.2.2.2; omega⟩
theorem feed_ok {S : JS} {n : Nat} (h : JOk S n) (pid pp : Int) (st : Bool) (c : Int) (bad : Bool) (body : ByteArray) : JOk (feedG pid S pp st c bad body).st (n + 300) := by
  by_cases hc : chkG pp c body = 0
  · obtain ⟨r0, r1, r2⟩ := chk_range hc
    by_cases hp : pp = pid
    · by_cases hz : body.size = 0
      · unfold feedG; rw [if_neg (by simpa using hc), if_neg (by simpa using hp), if_pos (.inl hz)]; exact h.more (by omega)
      · by_cases hs : S.seen = some (c, body)
        · unfold feedG; rw [if_neg (by simpa using hc), if_neg (by simpa using hp), if_pos (.inr hs)]; exact h.more (by omega)
        · cases bad with
          | true =>
            unfold feedG; rw [if_neg (by simpa using hc), if_neg (by simpa using hp), if_neg (by rintro (e | e); exact hz e; exact hs e), if_pos rfl]
            obtain ⟨g1, g2, g3, g4⟩ := h
            refine ⟨(fun p (hp : (none : Option (Int × ByteArray)) = some p) => nomatch hp), ?_, ?_, ?_⟩
            · show 0 ≤ _; omega
            · show 0 ≤ S.lost + 1; omega
            · show S.lost + 1 ≤ _; omega
          | false =>
            subst hp
            rw [feed_main hc hz hs]
            exact (body_ok (next_ok h r0 r1 hz) _ _ _ r2).more (by omega)
    · unfold feedG; rw [if_neg (by simpa using hc), if_pos hp]; exact h.more (by omega)
  · unfold feedG; rw [if_pos hc]; exact h.more (by omega)

/-! New, Plain, texts. -/
def newS : JS := ⟨⟨#[]⟩, false, none, 0⟩
theorem new_ok : JOk newS 0 := ⟨(fun p (hp : (none : Option (Int × ByteArray)) = some p) => nomatch hp), Nat.le_refl _, Int.le_refl _, Int.le_refl _⟩
theorem jnew_ok (pid : Int) (w : World) (h0 : 0 ≤ pid) (h1 : pid < 8191) : Calls Tryz.prog 26 #[.int .i64 pid] w fun e w' => e = .returned (.tuple #[.pointer (some ⟨w.heap.size, 0, none⟩), .int .i64 0]) ∧ w.alloc (.cells (jV pid ⟨#[]⟩ false 0 ⟨#[]⟩ 0) 148) = w' := by
  go_enter Tryz.func26, Tryz.ntmps26
  go_wp2
  go_ret2
  exact ⟨rfl, rfl⟩
theorem jnew_bad (pid : Int) (w : World) (h : pid < 0 ∨ (0 ≤ pid ∧ 8191 ≤ pid)) : Calls Tryz.prog 26 #[.int .i64 pid] w fun e w' => e = .returned (.tuple #[.pointer none, .int .i64 15]) ∧ w = w' := by
  rcases h with h | ⟨h, h2⟩
  all_goals
    go_enter Tryz.func26, Tryz.ntmps26
    go_wp2
    go_ret2
    exact ⟨rfl, rfl⟩

def PlainPost (w : World) (pp : Int) (st : Bool) (c : Int) (bad : Bool) (body : ByteArray) (e : Ending) (w' : World) : Prop := e = .returned (.agg #[.int .i64 pp, .bool st, .int .i64 c, .bool bad, .string body]) ∧ Same [] w w'
/-- Are two lists the same? (Where they are.) -/
def TrueAt (w : World) (e : Ending) (w' : World) : Prop := e = .returned (.bool true) ∧ Same [] w w'
end Go.Proofs.YtpkpfebhdgbgbaaGreatDoor.J
namespace Go.Proofs.YtpkpfebhdgbgbaaGreatDoor.J
open Go.RowKit
set_option linter.unusedSimpArgs false
set_option linter.unusedVariables false

theorem awake_feed4 (a b c d : UInt8) : feedG 17 newS 17 true 0 false ((⟨#[0]⟩ ++ (hdrS 2 ++ ⟨#[104, 105]⟩ ++ ⟨#[a, b, c, d]⟩)) ++ ⟨#[255, 255]⟩) =
      ⟨⟨⟨#[]⟩, false, some (0, (⟨#[0]⟩ ++ (hdrS 2 ++ ⟨#[104, 105]⟩ ++ ⟨#[a, b, c, d]⟩)) ++ ⟨#[255, 255]⟩), 0⟩, [hdrS 2 ++ ⟨#[104, 105]⟩ ++ ⟨#[a, b, c, d]⟩], 0⟩ := by kernel_rfl
theorem awake_feed (t : ByteArray) (ht : t.size = 4) :
    feedG 17 newS 17 true 0 false ((⟨#[0]⟩ ++ (hdrS 2 ++ ⟨#[104, 105]⟩ ++ t)) ++ ⟨#[255, 255]⟩) =
      ⟨⟨⟨#[]⟩, false, some (0, (⟨#[0]⟩ ++ (hdrS 2 ++ ⟨#[104, 105]⟩ ++ t)) ++ ⟨#[255, 255]⟩), 0⟩, [hdrS 2 ++ ⟨#[104, 105]⟩ ++ t], 0⟩ := by
  obtain ⟨⟨l⟩⟩ := t
  match l, ht with
  | [a, b, c, d], _ => exact awake_feed4 a b c d

theorem reads_some {w : World} {v : Value} {L : List ByteArray} (h : Reads w 1 v L.length (strVals L)) (h0 : L.length ≠ 0) :
    ∃ g o c, v = .slice (some ⟨g, o, none⟩) L.length c ∧ ∀ j (hj : j < L.length), w.cell? ⟨g, o + j, none⟩ = some (.string L[j]) := by
  rcases h.2 with ⟨a, c, rfl, hs, _, hc⟩ | ⟨_, h9⟩
  · obtain ⟨g, o, sp⟩ := a
    simp only at hs; subst hs
    refine ⟨g, o, c, rfl, fun j hj => ?_⟩
    have := hc j (.string L[j]) (by simp [strVals, hj])
    rwa [addr_add] at this
  · exact absurd h9 h0

def AwakePost (w : World) (e : Ending) (w' : World) : Prop := e = .returned (.bool true) ∧ Same [] w w'

end Go.Proofs.YtpkpfebhdgbgbaaGreatDoor.J
