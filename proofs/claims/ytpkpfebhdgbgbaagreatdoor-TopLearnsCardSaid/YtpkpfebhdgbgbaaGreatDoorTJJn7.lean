/- Taking bytes: the sections that are at their end (take), in the reference. Conditions: the bytes are fewer than 2^40. What feeding a packet answers, in plain Lean; onward, in the program. Conditions: the bytes are fewer than 2^40. Feeding a packet, in the program: where nothing is taken. Conditions: what is held is not too much. -/
import Derived.Test.YtpkpfebhdgbgbaaGreatDoorTJMd1
import Derived.Deep.LoopGhost
import Derived.Deep.DeepCutAuto
namespace Go.Proofs.YtpkpfebhdgbgbaaGreatDoor.J
open Go.RowKit
set_option linter.unusedSimpArgs false
set_option linter.unusedVariables false

end Go.Proofs.YtpkpfebhdgbgbaaGreatDoor.J
namespace Go.Proofs.YtpkpfebhdgbgbaaGreatDoor.J
open Go.RowKit
set_option linter.unusedSimpArgs false
set_option linter.unusedVariables false

/-- What a joiner holds. -/
structure JS where
  hold : ByteArray
  fol : Bool
  seen : Option (Int × ByteArray)
  lost : Int
/-- What feeding answers: what is held then, the sections, the error. -/
structure Fd where
  st : JS
  outs : List ByteArray
  err : Int

def seenC (S : JS) : Int := match S.seen with | none => 0 | some p => p.1
def seenB (S : JS) : ByteArray := match S.seen with | none => ⟨#[]⟩ | some p => p.2
def IsJS (w : World) (b : Nat) (pid : Int) (S : JS) : Prop := IsJ w b pid S.hold S.fol (seenC S) (seenB S) S.lost
/-- What was seen has a body, and what is held, and how often packets were missing, is not too much. -/
def JOk (S : JS) (n : Nat) : Prop := (∀ p, S.seen = some p → p.2.size ≠ 0 ∧ 0 ≤ p.1 ∧ p.1 ≤ 15) ∧ S.hold.size ≤ n ∧ 0 ≤ S.lost ∧ S.lost ≤ n

def onwardG (S : JS) (s : ByteArray) (err : Int) : Fd :=
  if S.fol then ⟨⟨(takeG (S.hold ++ s).size (S.hold ++ s)).hold, !(takeG (S.hold ++ s).size (S.hold ++ s)).lose && true, S.seen, S.lost⟩, (takeG (S.hold ++ s).size (S.hold ++ s)).outs, if (takeG (S.hold ++ s).size (S.hold ++ s)).ok then err else 12⟩
  else ⟨S, [], err⟩
def beginG (S : JS) (s : ByteArray) (outs : List ByteArray) (err : Int) : Fd :=
  ⟨⟨(takeG ((⟨#[]⟩ : ByteArray) ++ s).size (⟨#[]⟩ ++ s)).hold, !(takeG ((⟨#[]⟩ : ByteArray) ++ s).size (⟨#[]⟩ ++ s)).lose && true, S.seen, S.lost⟩, outs ++ (takeG ((⟨#[]⟩ : ByteArray) ++ s).size (⟨#[]⟩ ++ s)).outs, if (takeG ((⟨#[]⟩ : ByteArray) ++ s).size (⟨#[]⟩ ++ s)).ok then err else 12⟩
/-- The packet's body, behind what was told of its count. -/
def bodyG (S : JS) (err : Int) (st : Bool) (body : ByteArray) : Fd :=
  if st = false then onwardG S body err
  else if body.size - 1 < byteOf body 0 then ⟨⟨⟨#[]⟩, false, S.seen, S.lost⟩, [], 12⟩
  else beginG (onwardG S ((body.extract 1 body.size).extract 0 (byteOf body 0)) err).st ((body.extract 1 body.size).extract (byteOf body 0) (body.extract 1 body.size).size)
    (onwardG S ((body.extract 1 body.size).extract 0 (byteOf body 0)) err).outs (onwardG S ((body.extract 1 body.size).extract 0 (byteOf body 0)) err).err
def missed (S : JS) (c : Int) : Bool := match S.seen with | none => false | some p => decide (c ≠ (p.1 + 1) % 16)
def feedG (pid : Int) (S : JS) (pp : Int) (st : Bool) (c : Int) (bad : Bool) (body : ByteArray) : Fd :=
  if chkG pp c body ≠ 0 then ⟨S, [], chkG pp c body⟩
  else if pp ≠ pid then ⟨S, [], 14⟩
  else if body.size = 0 ∨ S.seen = some (c, body) then ⟨S, [], 0⟩
  else if bad then ⟨⟨⟨#[]⟩, false, none, S.lost + 1⟩, [], 21⟩
  else if missed S c then bodyG ⟨⟨#[]⟩, false, some (c, body), S.lost + 1⟩ 21 st body
  else bodyG ⟨S.hold, S.fol, some (c, body), S.lost⟩ 0 st body

def FdPost (w : World) (b : Nat) (pid : Int) (r : Fd) (e : Ending) (w' : World) : Prop := ∃ v, e = .returned (.tuple #[v, .int .i64 r.err]) ∧ NewStrs w w' v r.outs ∧ IsJS w' b pid r.st ∧ Same [b] w w'

theorem worse_take (ok : Bool) (err : Int) : worseG (if ok = true then 0 else 12) err = if ok = true then err else 12 := by
  cases ok
  · simp [worseG]
  · unfold worseG
    by_cases h : err = 0
    · simp [h]
    · simp [h]

set_option maxHeartbeats 1000000 in
theorem onward_any {w : World} {b : Nat} {pid : Int} {S : JS} (s : ByteArray) (err : Int) (hj : IsJS w b pid S) (hz : S.hold.size + s.size < 1099511627776) :
    Calls Tryz.prog 71 #[.pointer (some ⟨b, 0, none⟩), .string s, .int .i64 err] w (FdPost w b pid (onwardG S s err)) := by
  obtain ⟨hold, fol, seen, lost⟩ := S
  have ht := jtake_any s hj hz
  simp only at ht hz
  have HJ := Lib.hid hj
  obtain ⟨⟨c0, c1, c2, c3, c4, c5⟩, f1, f2, f3, f4, f5⟩ := hj.cells
  simp only at c1 c2 c5
  cases fol with
  | false =>
    clear hj ht
    go_enter Tryz.func71, Tryz.ntmps71
    go_wp2
    go_ret2
    exact ⟨.slice none 0 0, rfl, ⟨World.ownsRow_nil _ _ _ _, fun k hk => (by cases hk)⟩, HJ.out, Same.refl _ _⟩
  | true =>
    have HT := Lib.hid ht
    have HE := Lib.hid (show onwardG ⟨hold, true, seen, lost⟩ s err = _ from if_pos rfl)
    clear hj ht
    generalize takeG (hold ++ s).size (hold ++ s) = r at *
    go_enter Tryz.func71, Tryz.ntmps71
    go_wp2_with fail
    (with_reducible refine HT.out.mono ?_)
    rintro e w1 ⟨v, he, ho, j1, s1⟩
    obtain ⟨q, hq⟩ : ∃ q : Int, q = (if r.ok = true then 0 else 12) := ⟨_, rfl⟩
    obtain ⟨q2, hq2⟩ : ∃ q2 : Int, q2 = worseG q err := ⟨_, rfl⟩
    rw [← hq] at he
    subst he
    have HO := Lib.hid ho; have J1 := Lib.hid j1; have S1 := Lib.hid s1
    have HQ := Lib.hid (show q2 = if r.ok = true then err else 12 by rw [hq2, hq, worse_take])
    clear ho j1 s1 HT hq
    go_wp2_with fail
    (with_reducible refine (worse_any _ _ _).mono ?_)
    rintro e w2 ⟨rfl, rfl⟩
    rw [← hq2]
    clear hq2
    go_wp2
    go_ret2
    rw [HE.out]
    exact ⟨v, by rw [HQ.out]; rfl, HO.out, J1.out, S1.out⟩

end Go.Proofs.YtpkpfebhdgbgbaaGreatDoor.J
namespace Go.Proofs.YtpkpfebhdgbgbaaGreatDoor.J
open Go.RowKit
set_option linter.unusedSimpArgs false
set_option linter.unusedVariables false

theorem toList_inj {s t : ByteArray} (h : s.toList = t.toList) : s = t := by
  rw [ByteArray.toList_eq, ByteArray.toList_eq] at h
  obtain ⟨⟨a⟩⟩ := s; obtain ⟨⟨b⟩⟩ := t
  simp only at h; subst h; rfl
theorem toList_ne {s t : ByteArray} (h : ¬ s = t) : ¬ s.toList = t.toList := fun e => h (toList_inj e)
theorem eql_sight (c : Int) (s : ByteArray) (c' : Int) (s' : ByteArray) (w : World) :
    (binOp .eql 146 (.agg #[.int .i64 c, .string s]) (.agg #[.int .i64 c', .string s'])).run Tryz.prog w = .ok (.bool (decide (c = c' ∧ s = s'))) w := by
  by_cases h1 : c = c' <;> by_cases h2 : s = s' <;> first | (have h3 := toList_ne h2; simp [go_sem, h1, h2, h3]) | simp [go_sem, h1, h2]
theorem neq_sight (c : Int) (s : ByteArray) (c' : Int) (s' : ByteArray) (w : World) :
    (binOp .neq 146 (.agg #[.int .i64 c, .string s]) (.agg #[.int .i64 c', .string s'])).run Tryz.prog w = .ok (.bool (!decide (c = c' ∧ s = s'))) w := by
  by_cases h1 : c = c' <;> by_cases h2 : s = s' <;> first | (have h3 := toList_ne h2; simp [go_sem, h1, h2, h3]) | simp [go_sem, h1, h2]

def pktV (pp : Int) (st : Bool) (c : Int) (bad : Bool) (body : ByteArray) : Array Value := #[.int .i64 pp, .bool st, .int .i64 c, .bool bad, .string body]

theorem pkt_cells {w : World} {b : Nat} {pp : Int} {st : Bool} {c : Int} {bad : Bool} {body : ByteArray} (h : w.heap[b]? = some (.cells #[.int .i64 pp, .bool st, .int .i64 c, .bool bad, .string body] 85 (0, 0))) :
    w.cell? ⟨b, 0, none⟩ = some (.int .i64 pp) ∧ w.cell? ⟨b, 1, none⟩ = some (.bool st) ∧ w.cell? ⟨b, 2, none⟩ = some (.int .i64 c) ∧ w.cell? ⟨b, 3, none⟩ = some (.bool bad) ∧ w.cell? ⟨b, 4, none⟩ = some (.string body) := by
  refine ⟨?_, ?_, ?_, ?_, ?_⟩ <;> exact (cell_of h _).trans rfl
theorem sight_cells {w : World} {b : Nat} {c : Int} {body : ByteArray} (h : w.heap[b]? = some (.cells #[.int .i64 c, .string body] 146 (0, 0))) :
    w.cell? ⟨b, 0, none⟩ = some (.int .i64 c) ∧ w.cell? ⟨b, 1, none⟩ = some (.string body) := by
  refine ⟨?_, ?_⟩ <;> exact (cell_of h _).trans rfl
theorem seen_ne {S : JS} {c : Int} {body : ByteArray} (hz : ¬ body.size = 0) (hs : ¬ S.seen = some (c, body)) : ¬ (c = seenC S ∧ body = seenB S) := by
  rintro ⟨h1, h2⟩
  unfold seenC at h1; unfold seenB at h2
  cases h : S.seen with
  | none => rw [h] at h2; simp only at h2; subst h2; exact hz rfl
  | some p => rw [h] at h1 h2; simp only at h1 h2; apply hs; rw [h, h1, h2]

theorem takeG_len : ∀ (k : Nat) (h : ByteArray), (takeG k h).outs.length ≤ h.size ∧ (takeG k h).hold.size ≤ h.size
  | 0, h => by simp [takeG]
  | k + 1, h => by
    rw [takeG]
    split
    · simp
    split
    · refine ⟨Nat.zero_le _, ?_⟩
      show 0 ≤ _; omega
    split
    · simp
    split
    · refine ⟨Nat.zero_le _, ?_⟩
      show 0 ≤ _; omega
    · rename_i n hn
      obtain ⟨n1, n2⟩ := need_ge hn
      split
      · simp
      · have h1 := takeG_len k (h.extract n h.size)
        have h2 := size_extract h n h.size (by omega) (by omega)
        simp only [List.length_cons]
        omega

theorem chk_range {pp c : Int} {body : ByteArray} (h : chkG pp c body = 0) : 0 ≤ c ∧ c ≤ 15 ∧ body.size ≤ 184 := by
  unfold chkG at h
  split at h
  · cases h
  split at h
  · cases h
  · rename_i h1 h2; omega
theorem Same.drewN (w : World) (n : Nat) : Same [] w (w.drewN n) := ⟨rfl, rfl, rfl, Nat.le_refl _, fun _ _ _ => rfl⟩

set_option maxRecDepth 100000 in
set_option maxHeartbeats 4000000 in
theorem jfeed_early {w : World} {b : Nat} {pid : Int} {S : JS} {n : Nat} (pp : Int) (st : Bool) (c : Int) (bad : Bool) (body : ByteArray) (hj : IsJS w b pid S) (hk : JOk S n) (hn : n < 1000000000000)
    (h : chkG pp c body ≠ 0 ∨ pp ≠ pid ∨ body.size = 0 ∨ S.seen = some (c, body) ∨ bad = true) :
    Calls Tryz.prog 27 #[.pointer (some ⟨b, 0, none⟩), .agg #[.int .i64 pp, .bool st, .int .i64 c, .bool bad, .string body]] w (FdPost w b pid (feedG pid S pp st c bad body)) := by
  have hb := heap_lt hj
  have tb := heap_alloc_new w (.cells #[.int .i64 pp, .bool st, .int .i64 c, .bool bad, .string body] 85)
  have HJ := Lib.hid hj; have HK := Lib.hid hk; have TB := Lib.hid tb
  clear hj hk tb
  go_enter Tryz.func27, Tryz.ntmps27
  go_wp2_with fail
  (with_reducible refine (pcheck_any pp st c bad body _).mono ?_)
  rintro e w1 ⟨rfl, s1⟩
  have J1 := Lib.hid (show IsJS w1 b pid S from (HJ.out.same ((Same.refl [] w).alloc _) (by simp)).same s1 (by simp))
  have T1 := Lib.hid (s1.heap TB.out (by simp))
  have S1 := Lib.hid (((Same.refl [] w).alloc (.cells #[.int .i64 pp, .bool st, .int .i64 c, .bool bad, .string body] 85)).trans_nil s1)
  clear s1 HJ TB
  by_cases hc0 : chkG pp c body = 0
  case neg =>
    have HF := Lib.hid (show feedG pid S pp st c bad body = ⟨S, [], chkG pp c body⟩ by unfold feedG; rw [if_pos hc0])
    have hcb : (chkG pp c body != 0) = true := by simpa using hc0
    generalize chkG pp c body = E at *
    clear hc0 h
    go_wp2_with fail
    go_ret2
    rw [HF.out]
    exact ⟨.slice none 0 0, rfl, ⟨World.ownsRow_nil _ _ _ _, fun k hk => (by cases hk)⟩, J1.out, S1.out.mono (by simp)⟩
  case pos =>
    rw [hc0]
    have hx : ∀ {r : Fd}, (if chkG pp c body ≠ 0 then ⟨S, [], chkG pp c body⟩ else r) = r := fun {r} => if_neg (by simpa using hc0)
    have HX := Lib.hid (show ∀ r : Fd, (if chkG pp c body ≠ 0 then ⟨S, [], chkG pp c body⟩ else r) = r from fun r => hx)
    have hx2 : ∀ st bad, feedG pid S pp st c bad body = (if pp ≠ pid then ⟨S, [], 14⟩ else if body.size = 0 ∨ S.seen = some (c, body) then ⟨S, [], 0⟩ else if bad then ⟨⟨⟨#[]⟩, false, none, S.lost + 1⟩, [], 21⟩ else if missed S c then bodyG ⟨⟨#[]⟩, false, some (c, body), S.lost + 1⟩ 21 st body else bodyG ⟨S.hold, S.fol, some (c, body), S.lost⟩ 0 st body) :=
      fun st bad => by unfold feedG; exact hx
    have HX := Lib.hid (hx2 st bad)
    have hcr := chk_range hc0
    obtain ⟨r0, r1, r2⟩ := hcr
    have CHK := Lib.hid hc0
    clear hx hx2 hc0
    have k1 := T1.out
    have p0 := cell_of k1 0; have p1 := cell_of k1 1; have p2 := cell_of k1 2; have p3 := cell_of k1 3; have p4 := cell_of k1 4
    simp only [List.getElem?_toArray, List.getElem?_cons_zero, List.getElem?_cons_succ] at p0 p1 p2 p3 p4
    clear k1
    go_upto_region 7 with fail
    have hq := heap_alloc_new w1 (.cells #[.int .i64 c, .string body] 146)
    have s2 := S1.out.alloc (.cells #[.int .i64 c, .string body] 146)
    have j2 : IsJS (w1.alloc (.cells #[.int .i64 c, .string body] 146)) b pid S := J1.out.same ((Same.refl [] w1).alloc _) (by simp)
    have t2 := (Below.heap_alloc w1 (.cells #[.int .i64 c, .string body] 146) w.heap.size (heap_lt T1.out)).trans T1.out
    clear p0 p1 p2 p3 p4
    obtain ⟨Q, hQ⟩ : ∃ Q, Q = w1.heap.size := ⟨_, rfl⟩
    have hQb : b < Q := by have := heap_lt J1.out; omega
    rw [← hQ] at hq ⊢
    clear hQ J1 T1 S1
    generalize w1.alloc (.cells #[.int .i64 c, .string body] 146) = w2 at *
    have p0 := cell_of t2 0; have p1 := cell_of t2 1; have p2 := cell_of t2 2; have p3 := cell_of t2 3; have p4 := cell_of t2 4
    have q0 := cell_of hq 0; have q1 := cell_of hq 1
    simp only [List.getElem?_toArray, List.getElem?_cons_zero, List.getElem?_cons_succ] at p0 p1 p2 p3 p4 q0 q1
    obtain ⟨⟨c0, c1, c2, c3, c4, c5⟩, f1, f2, f3, f4, f5⟩ := (show IsJ w2 b pid S.hold S.fol (seenC S) (seenB S) S.lost from j2).cells
    have J2 := Lib.hid j2; have S2 := Lib.hid s2; have HH := Lib.hid h; have T2 := Lib.hid t2; have Q2 := Lib.hid hq
    clear j2 s2 t2 hq h
    by_cases hpp : pp = pid
    case neg =>
      have HF := Lib.hid (show feedG pid S pp st c bad body = ⟨S, [], 14⟩ by rw [HX.out, if_pos hpp])
      have hpb : (pp != pid) = true := by simpa using hpp
      have hpb2 : (pp == pid) = false := by simpa using hpp
      clear HX hpp
      go_quiet (fail)
      go_wp2_with fail
      go_ret2
      rw [HF.out]
      exact ⟨.slice none 0 0, rfl, ⟨World.ownsRow_nil _ _ _ _, fun k hk => (by cases hk)⟩, J2.out.same (Same.drewN _ _) (by simp), (S2.out.trans_nil (Same.drewN _ _)).mono (by simp)⟩
    case pos =>
      have hpb : (pp != pid) = false := by simpa using hpp
      have hpb2 : (pp == pid) = true := by simpa using hpp
      have hx3 := HX.out
      rw [if_neg (by simpa using hpp)] at hx3
      have HY := Lib.hid hx3
      clear HX hx3
      go_quiet (fail)
      go_upto_region 9 with fail
      obtain ⟨w3, hw3⟩ : ∃ w3, w3 = w2.drewN nq := ⟨_, rfl⟩
      have e3 : Same [] w2 w3 := by rw [hw3]; exact Same.drewN _ _
      rw [← hw3]
      clear hw3 p0 p1 p2 p3 p4 q0 q1 c0 c1 c2 c3 c4 c5 f1 f2 f3 f4 f5
      have J3 := Lib.hid (show IsJS w3 b pid S from J2.out.same e3 (by simp))
      have S3 := Lib.hid (S2.out.trans_nil e3)
      have T3 := Lib.hid (e3.heap T2.out (by simp))
      have Q3 := Lib.hid (e3.heap Q2.out (by simp))
      clear e3 J2 S2 T2 Q2
      obtain ⟨p0, p1, p2, p3, p4⟩ := pkt_cells T3.out
      obtain ⟨q0, q1⟩ := sight_cells Q3.out
      obtain ⟨⟨c0, c1, c2, c3, c4, c5⟩, f1, f2, f3, f4, f5⟩ := (show IsJ w3 b pid S.hold S.fol (seenC S) (seenB S) S.lost from J3.out).cells
      by_cases hz : body.size = 0
      case pos =>
        have HF := Lib.hid (show feedG pid S pp st c bad body = ⟨S, [], 0⟩ by rw [HY.out, if_pos (.inl hz)])
        obtain rfl : body = ⟨#[]⟩ := empty_of hz
        clear HY HH hz
        go_quiet (fail)
        go_wp2_with fail
        go_ret2
        rw [HF.out]
        exact ⟨.slice none 0 0, rfl, ⟨World.ownsRow_nil _ _ _ _, fun k hk => (by cases hk)⟩, J3.out.same (Same.drewN _ _) (by simp), (S3.out.trans_nil (Same.drewN _ _)).mono (by simp)⟩
      case neg =>
        obtain ⟨n1, n2⟩ := nonempty body (by omega)
        by_cases hse : S.seen = some (c, body)
        case pos =>
          have HF := Lib.hid (show feedG pid S pp st c bad body = ⟨S, [], 0⟩ by rw [HY.out, if_pos (.inr hse)])
          have h1 : seenC S = c := by unfold seenC; rw [hse]
          have h2 : seenB S = body := by unfold seenB; rw [hse]
          rw [h1] at c3; rw [h2] at c4
          have heq := fun W => eql_sight c body c body W
          simp only [and_self, decide_true] at heq
          clear HY HH hz h1 h2 hse
          go_quiet (fail)
          go_wp2_with fail
          go_ret2
          rw [HF.out]
          exact ⟨.slice none 0 0, rfl, ⟨World.ownsRow_nil _ _ _ _, fun k hk => (by cases hk)⟩, J3.out.same (Same.drewN _ _) (by simp), (S3.out.trans_nil (Same.drewN _ _)).mono (by simp)⟩
        case neg =>
          have hx4 := HY.out
          rw [if_neg (by rintro (h | h); exact hz h; exact hse h)] at hx4
          have hbad : bad = true := by
            rcases HH.out with h | h | h | h | h
            · exact absurd CHK.out h
            · exact absurd hpp h
            · exact absurd h hz
            · exact absurd h hse
            · exact h
          subst hbad
          have HF := Lib.hid (show feedG pid S pp st c true body = ⟨⟨⟨#[]⟩, false, none, S.lost + 1⟩, [], 21⟩ by rw [hx4]; rfl)
          have heq := fun W => eql_sight c body (seenC S) (seenB S) W
          rw [decide_eq_false (seen_ne hz hse)] at heq
          have hlw : IntKind.i64.wrap (S.lost + 1) = S.lost + 1 := IntWalk.i64_in _ (by obtain ⟨_, _, l0, l1⟩ := HK.out; omega)
          clear HY HH hz hse hx4
          go_quiet (fail)
          have HD := Lib.hid (drop_any (show IsJ (w3.drewN nq) b pid S.hold S.fol (seenC S) (seenB S) S.lost from J3.out.same (Same.drewN _ _) (by simp)))
          go_wp2_with fail
          (with_reducible refine HD.out.mono ?_)
          rintro e w4 ⟨rfl, j4, s4⟩
          have J4 := Lib.hid j4; have S4 := Lib.hid s4
          clear p0 p1 p2 p3 p4 q0 q1 c0 c1 c2 c3 c4 c5 f1 f2 f3 f4 f5 HD heq
          obtain ⟨⟨c0, c1, c2, c3, c4, c5⟩, f1, f2, f3, f4, f5⟩ := j4.cells
          clear j4 s4
          go_wp2_with fail
          go_ret2
          rw [HF.out]
          refine ⟨.slice none 0 0, rfl, ⟨World.ownsRow_nil _ _ _ _, fun k hk => (by cases hk)⟩, J4.out.set_lost _, ?_⟩
          exact (((S3.out.trans_nil (Same.drewN _ _)).mono (T := [b]) (by simp)).trans S4.out (fun x hx _ => hx)).setCell (by simp) _

end Go.Proofs.YtpkpfebhdgbgbaaGreatDoor.J
