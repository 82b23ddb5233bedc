/- Feeding a packet: in the program, whatever packet; in the reference, where nothing is taken. Conditions: what is held is not too much. -/
import Derived.Test.YtpnbhgmcfooppaaDoorDn8
namespace Go.Proofs.YtpnbhgmcfooppaaDoor
open Go.RowKit
set_option linter.unusedSimpArgs false
set_option linter.unusedVariables false

theorem jfeed_any {w : World} {b : Nat} {pid : Int} {S : JS} {n : Nat} (pp : Int) (st : Bool) (c : Int) (bad : Bool) (body : ByteArray) (hj : IsJS w b pid S) (hk : JOk S n) (hn : n < 1000000000000) :
    Calls Tryd.prog 14 #[.pointer (some ⟨b, 0, none⟩), .agg #[.int .i64 pp, .bool st, .int .i64 c, .bool bad, .string body]] w (FdPost w b pid (feedG pid S pp st c bad body)) := by
  by_cases h : chkG pp c body ≠ 0 ∨ pp ≠ pid ∨ body.size = 0 ∨ S.seen = some (c, body) ∨ bad = true
  · exact jfeed_early pp st c bad body hj hk hn h
  · have h1 : chkG pp c body = 0 := Decidable.byContradiction fun e => h (.inl e)
    have h2 : pp = pid := Decidable.byContradiction fun e => h (.inr (.inl e))
    have h3 : ¬ body.size = 0 := fun e => h (.inr (.inr (.inl e)))
    have h4 : ¬ S.seen = some (c, body) := fun e => h (.inr (.inr (.inr (.inl e))))
    have h5 : bad = false := by cases bad; rfl; exact absurd (.inr (.inr (.inr (.inr rfl)))) h
    subst h2 h5
    rw [feed_main h1 h3 h4]
    exact jfeed_main st c body hj hk hn h1 h3 h4

end Go.Proofs.YtpnbhgmcfooppaaDoor
