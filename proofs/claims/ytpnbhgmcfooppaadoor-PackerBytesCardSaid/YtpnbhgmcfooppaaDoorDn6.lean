/- What feeding a packet answers, in plain Lean; onward, in the program. Conditions: the bytes are fewer than 2^40. -/
import Derived.Test.YtpnbhgmcfooppaaDoorDn4
import Derived.Deep.LoopGhost
namespace Go.Proofs.YtpnbhgmcfooppaaDoor
open Go.RowKit
set_option linter.unusedSimpArgs false
set_option linter.unusedVariables false

/-- What a joiner holds. -/
structure JS where
  hold : ByteArray
  fol : Bool
  seen : Option (Int × ByteArray)
  lost : Int
/-- What feeding answers: what is held then, the sections, the error. -/
structure Fd where
  st : JS
  outs : List ByteArray
  err : Int

def seenC (S : JS) : Int := match S.seen with | none => 0 | some p => p.1
def seenB (S : JS) : ByteArray := match S.seen with | none => ⟨#[]⟩ | some p => p.2
def IsJS (w : World) (b : Nat) (pid : Int) (S : JS) : Prop := IsJ w b pid S.hold S.fol (seenC S) (seenB S) S.lost
/-- What was seen has a body, and what is held, and how often packets were missing, is not too much. -/
def JOk (S : JS) (n : Nat) : Prop := (∀ p, S.seen = some p → p.2.size ≠ 0 ∧ 0 ≤ p.1 ∧ p.1 ≤ 15) ∧ S.hold.size ≤ n ∧ 0 ≤ S.lost ∧ S.lost ≤ n

def onwardG (S : JS) (s : ByteArray) (err : Int) : Fd :=
  if S.fol then ⟨⟨(takeG (S.hold ++ s).size (S.hold ++ s)).hold, !(takeG (S.hold ++ s).size (S.hold ++ s)).lose && true, S.seen, S.lost⟩, (takeG (S.hold ++ s).size (S.hold ++ s)).outs, if (takeG (S.hold ++ s).size (S.hold ++ s)).ok then err else 12⟩
  else ⟨S, [], err⟩
def beginG (S : JS) (s : ByteArray) (outs : List ByteArray) (err : Int) : Fd :=
  ⟨⟨(takeG ((⟨#[]⟩ : ByteArray) ++ s).size (⟨#[]⟩ ++ s)).hold, !(takeG ((⟨#[]⟩ : ByteArray) ++ s).size (⟨#[]⟩ ++ s)).lose && true, S.seen, S.lost⟩, outs ++ (takeG ((⟨#[]⟩ : ByteArray) ++ s).size (⟨#[]⟩ ++ s)).outs, if (takeG ((⟨#[]⟩ : ByteArray) ++ s).size (⟨#[]⟩ ++ s)).ok then err else 12⟩
/-- The packet's body, behind what was told of its count. -/
def bodyG (S : JS) (err : Int) (st : Bool) (body : ByteArray) : Fd :=
  if st = false then onwardG S body err
  else if body.size - 1 < byteOf body 0 then ⟨⟨⟨#[]⟩, false, S.seen, S.lost⟩, [], 12⟩
  else beginG (onwardG S ((body.extract 1 body.size).extract 0 (byteOf body 0)) err).st ((body.extract 1 body.size).extract (byteOf body 0) (body.extract 1 body.size).size)
    (onwardG S ((body.extract 1 body.size).extract 0 (byteOf body 0)) err).outs (onwardG S ((body.extract 1 body.size).extract 0 (byteOf body 0)) err).err
def missed (S : JS) (c : Int) : Bool := match S.seen with | none => false | some p => decide (c ≠ (p.1 + 1) % 16)
def feedG (pid : Int) (S : JS) (pp : Int) (st : Bool) (c : Int) (bad : Bool) (body : ByteArray) : Fd :=
  if chkG pp c body ≠ 0 then ⟨S, [], chkG pp c body⟩
  else if pp ≠ pid then ⟨S, [], 14⟩
  else if body.size = 0 ∨ S.seen = some (c, body) then ⟨S, [], 0⟩
  else if bad then ⟨⟨⟨#[]⟩, false, none, S.lost + 1⟩, [], 21⟩
  else if missed S c then bodyG ⟨⟨#[]⟩, false, some (c, body), S.lost + 1⟩ 21 st body
  else bodyG ⟨S.hold, S.fol, some (c, body), S.lost⟩ 0 st body

def FdPost (w : World) (b : Nat) (pid : Int) (r : Fd) (e : Ending) (w' : World) : Prop := ∃ v, e = .returned (.tuple #[v, .int .i64 r.err]) ∧ NewStrs w w' v r.outs ∧ IsJS w' b pid r.st ∧ Same [b] w w'

theorem worse_take (ok : Bool) (err : Int) : worseG (if ok = true then 0 else 12) err = if ok = true then err else 12 := by
  cases ok
  · simp [worseG]
  · unfold worseG
    by_cases h : err = 0
    · simp [h]
    · simp [h]

set_option maxHeartbeats 1000000 in
theorem onward_any {w : World} {b : Nat} {pid : Int} {S : JS} (s : ByteArray) (err : Int) (hj : IsJS w b pid S) (hz : S.hold.size + s.size < 1099511627776) :
    Calls Tryd.prog 28 #[.pointer (some ⟨b, 0, none⟩), .string s, .int .i64 err] w (FdPost w b pid (onwardG S s err)) := by
  obtain ⟨hold, fol, seen, lost⟩ := S
  have ht := jtake_any s hj hz
  simp only at ht hz
  have HJ := Lib.hid hj
  obtain ⟨⟨c0, c1, c2, c3, c4, c5⟩, f1, f2, f3, f4, f5⟩ := hj.cells
  simp only at c1 c2 c5
  cases fol with
  | false =>
    clear hj ht
    go_enter Tryd.func28, Tryd.ntmps28
    go_wp2
    go_ret2
    exact ⟨.slice none 0 0, rfl, ⟨World.ownsRow_nil _ _ _ _, fun k hk => (by cases hk)⟩, HJ.out, Same.refl _ _⟩
  | true =>
    have HT := Lib.hid ht
    have HE := Lib.hid (show onwardG ⟨hold, true, seen, lost⟩ s err = _ from if_pos rfl)
    clear hj ht
    generalize takeG (hold ++ s).size (hold ++ s) = r at *
    go_enter Tryd.func28, Tryd.ntmps28
    go_wp2_with fail
    (with_reducible refine HT.out.mono ?_)
    rintro e w1 ⟨v, he, ho, j1, s1⟩
    obtain ⟨q, hq⟩ : ∃ q : Int, q = (if r.ok = true then 0 else 12) := ⟨_, rfl⟩
    obtain ⟨q2, hq2⟩ : ∃ q2 : Int, q2 = worseG q err := ⟨_, rfl⟩
    rw [← hq] at he
    subst he
    have HO := Lib.hid ho; have J1 := Lib.hid j1; have S1 := Lib.hid s1
    have HQ := Lib.hid (show q2 = if r.ok = true then err else 12 by rw [hq2, hq, worse_take])
    clear ho j1 s1 HT hq
    go_wp2_with fail
    (with_reducible refine (worse_any _ _ _).mono ?_)
    rintro e w2 ⟨rfl, rfl⟩
    rw [← hq2]
    clear hq2
    go_wp2
    go_ret2
    rw [HE.out]
    exact ⟨v, by rw [HQ.out]; rfl, HO.out, J1.out, S1.out⟩

end Go.Proofs.YtpnbhgmcfooppaaDoor
