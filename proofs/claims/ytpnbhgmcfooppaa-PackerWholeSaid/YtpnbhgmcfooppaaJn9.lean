/- Feeding a packet: in the program, whatever packet; in the reference, where nothing is taken. Conditions: what is held is not too much. -/
import Derived.Test.YtpnbhgmcfooppaaJn8
namespace Go.Proofs.Ytpnbhgmcfooppaa
open Go.RowKit
set_option linter.unusedSimpArgs false
set_option linter.unusedVariables false

theorem jfeed_any {w : World} {b : Nat} {pid : Int} {S : JS} {n : Nat} (pp : Int) (st : Bool) (c : Int) (bad : Bool) (body : ByteArray) (hj : IsJS w b pid S) (hk : JOk S n) (hn : n < 1000000000000) :
    Calls Try.prog 11 #[.pointer (some ⟨b, 0, none⟩), .agg #[.int .i64 pp, .bool st, .int .i64 c, .bool bad, .string body]] w (FdPost w b pid (feedG pid S pp st c bad body)) := by
  by_cases h : chkG pp c body ≠ 0 ∨ pp ≠ pid ∨ body.size = 0 ∨ S.seen = some (c, body) ∨ bad = true
  · exact jfeed_early pp st c bad body hj hk hn h
  · have h1 : chkG pp c body = 0 := Decidable.byContradiction fun e => h (.inl e)
    have h2 : pp = pid := Decidable.byContradiction fun e => h (.inr (.inl e))
    have h3 : ¬ body.size = 0 := fun e => h (.inr (.inr (.inl e)))
    have h4 : ¬ S.seen = some (c, body) := fun e => h (.inr (.inr (.inr (.inl e))))
    have h5 : bad = false := by cases bad; rfl; exact absurd (.inr (.inr (.inr (.inr rfl)))) h
    subst h2 h5
    rw [feed_main h1 h3 h4]
    exact jfeed_main st c body hj hk hn h1 h3 h4

def RFdPost (w : World) (b : Nat) (pid : Int) (r : Fd) (e : Ending) (w' : World) : Prop := ∃ v, e = .returned (.tuple #[v, .int .i64 r.err]) ∧ NewStrs w w' v r.outs ∧ IsRS w' b pid r.st ∧ Same [b] w w'

theorem IsRS.same {A B : World} {b : Nat} {pid : Int} {S : JS} {T : List Nat} (h : IsRS A b pid S) (hs : Same T A B) (hb : b ∉ T) : IsRS B b pid S := by
  obtain ⟨c, bd, h1, h2⟩ := h
  exact ⟨c, bd, h1, h2.same hs hb⟩
theorem rpkt_cells {w : World} {b : Nat} {pp : Int} {st : Bool} {c : Int} {bad : Bool} {body : ByteArray} (h : w.heap[b]? = some (.cells #[.int .i64 pp, .bool st, .int .i64 c, .bool bad, .string body] 37 (0, 0))) :
    w.cell? ⟨b, 0, none⟩ = some (.int .i64 pp) ∧ w.cell? ⟨b, 1, none⟩ = some (.bool st) ∧ w.cell? ⟨b, 2, none⟩ = some (.int .i64 c) ∧ w.cell? ⟨b, 3, none⟩ = some (.bool bad) ∧ w.cell? ⟨b, 4, none⟩ = some (.string body) := by
  refine ⟨?_, ?_, ?_, ?_, ?_⟩ <;> exact (cell_of h _).trans rfl

/-- What the reference compares. -/
theorem ref_cases {S : JS} {n : Nat} (hk : JOk S n) {c c' : Int} {body bd : ByteArray} (hc : ∀ p, S.seen = some p → c' = p.1 ∧ bd = p.2) (hs : ¬ S.seen = some (c, body)) (h0 : 0 ≤ c) (h1 : c ≤ 15) :
    (S.seen.isSome = false ∧ missed S c = false) ∨ (S.seen.isSome = true ∧ (c == c') = false ∧ 0 ≤ c' ∧ c' ≤ 15 ∧ (c != (c' + 1) % 16) = missed S c) ∨
    (S.seen.isSome = true ∧ (c == c') = true ∧ (body.toList == bd.toList) = false ∧ 0 ≤ c' ∧ c' ≤ 15 ∧ (c != (c' + 1) % 16) = missed S c) := by
  cases h : S.seen with
  | none => left; exact ⟨rfl, by unfold missed; rw [h]⟩
  | some p =>
    right
    obtain ⟨g1, g2⟩ := hc p h
    obtain ⟨k1, k2, k3⟩ := hk.1 p h
    have hm : (c != (c' + 1) % 16) = missed S c := by
      unfold missed; rw [h, g1]
      by_cases e : c = (p.1 + 1) % 16
      · simp [e]
      · simp [e]
    rw [h] at hs
    by_cases e : c = c'
    · right
      refine ⟨rfl, by simp [e], ?_, by omega, by omega, hm⟩
      rw [beq_eq_false_iff_ne]
      intro hl
      apply hs
      rw [toList_inj hl, e, g1, g2]
    · left
      exact ⟨rfl, by simpa using e, by omega, by omega, hm⟩

set_option maxRecDepth 100000 in
set_option maxHeartbeats 8000000 in
theorem rfeed_early {w : World} {b : Nat} {pid : Int} {S : JS} {n : Nat} (pp : Int) (st : Bool) (c : Int) (bad : Bool) (body : ByteArray) (hj : IsRS w b pid S) (hk : JOk S n) (hn : n < 1000000000000)
    (h : chkG pp c body ≠ 0 ∨ pp ≠ pid ∨ body.size = 0 ∨ S.seen = some (c, body) ∨ bad = true) :
    Calls Try.prog 12 #[.pointer (some ⟨b, 0, none⟩), .agg #[.int .i64 pp, .bool st, .int .i64 c, .bool bad, .string body]] w (RFdPost w b pid (feedG pid S pp st c bad body)) := by
  obtain ⟨sc, sb, hsc, hj⟩ := hj
  have hb := heap_lt hj
  have tb := heap_alloc_new w (.cells #[.int .i64 pp, .bool st, .int .i64 c, .bool bad, .string body] 37)
  have HJ := Lib.hid hj; have HK := Lib.hid hk; have TB := Lib.hid tb; have HSC := Lib.hid hsc
  clear hj hk tb hsc
  go_enter Try.func12, Try.ntmps12
  go_wp2_with fail
  (with_reducible refine (rpcheck_any pp st c bad body _).mono ?_)
  rintro e w1 ⟨rfl, s1⟩
  have J1 := Lib.hid ((HJ.out.same ((Same.refl [] w).alloc (.cells #[.int .i64 pp, .bool st, .int .i64 c, .bool bad, .string body] 37)) (by simp)).same s1 (by simp))
  have T1 := Lib.hid (s1.heap TB.out (by simp))
  have S1 := Lib.hid (((Same.refl [] w).alloc (.cells #[.int .i64 pp, .bool st, .int .i64 c, .bool bad, .string body] 37)).trans_nil s1)
  clear s1 HJ TB
  by_cases hc0 : chkG pp c body = 0
  case neg =>
    have HF := Lib.hid (show feedG pid S pp st c bad body = ⟨S, [], chkG pp c body⟩ by unfold feedG; rw [if_pos hc0])
    have hcb : (chkG pp c body != 0) = true := by simpa using hc0
    generalize chkG pp c body = E at *
    clear hc0 h
    go_wp2_with fail
    go_ret2
    rw [HF.out]
    exact ⟨.slice none 0 0, rfl, ⟨World.ownsRow_nil _ _ _ _, fun k hk => (by cases hk)⟩, ⟨_, _, HSC.out, J1.out⟩, S1.out.mono (by simp)⟩
  case pos =>
    rw [hc0]
    have hx : ∀ {r : Fd}, (if chkG pp c body ≠ 0 then ⟨S, [], chkG pp c body⟩ else r) = r := fun {r} => if_neg (by simpa using hc0)
    have hx2 : ∀ st bad, feedG pid S pp st c bad body = (if pp ≠ pid then ⟨S, [], 14⟩ else if body.size = 0 ∨ S.seen = some (c, body) then ⟨S, [], 0⟩ else if bad then ⟨⟨⟨#[]⟩, false, none, S.lost + 1⟩, [], 21⟩ else if missed S c then bodyG ⟨⟨#[]⟩, false, some (c, body), S.lost + 1⟩ 21 st body else bodyG ⟨S.hold, S.fol, some (c, body), S.lost⟩ 0 st body) :=
      fun st bad => by unfold feedG; exact hx
    have HX := Lib.hid (hx2 st bad)
    obtain ⟨r0, r1, r2⟩ := chk_range hc0
    have CHK := Lib.hid hc0
    clear hx hx2 hc0
    obtain ⟨p0, p1, p2, p3, p4⟩ := rpkt_cells T1.out
    obtain ⟨⟨c0, c1, c2, c3, c4, c5, c6⟩, f1, f2, f3, f4, f5, f6⟩ := J1.out.cells
    have HH := Lib.hid h
    clear h
    go_upto_region 4 with fail
    by_cases hpp : pp = pid
    case neg =>
      have HF := Lib.hid (show feedG pid S pp st c bad body = ⟨S, [], 14⟩ by rw [HX.out, if_pos hpp])
      have hpb : (pp != pid) = true := by simpa using hpp
      have hpb2 : (pp == pid) = false := by simpa using hpp
      clear HX hpp
      go_quiet (fail)
      go_wp2_with fail
      go_ret2
      rw [HF.out]
      exact ⟨.slice none 0 0, rfl, ⟨World.ownsRow_nil _ _ _ _, fun k hk => (by cases hk)⟩, ⟨_, _, HSC.out, J1.out.same (Same.drewN _ _) (by simp)⟩, (S1.out.trans_nil (Same.drewN _ _)).mono (by simp)⟩
    case pos =>
      have hpb : (pp != pid) = false := by simpa using hpp
      have hpb2 : (pp == pid) = true := by simpa using hpp
      have hx3 := HX.out
      rw [if_neg (by simpa using hpp)] at hx3
      have HY := Lib.hid hx3
      clear HX hx3
      go_quiet (fail)
      go_upto_region 6 with fail
      obtain ⟨w3, hw3⟩ : ∃ w3, w3 = w1.drewN nq := ⟨_, rfl⟩
      have e3 : Same [] w1 w3 := by rw [hw3]; exact Same.drewN _ _
      rw [← hw3]
      clear hw3 p0 p1 p2 p3 p4 c0 c1 c2 c3 c4 c5 c6 f1 f2 f3 f4 f5 f6
      have J3 := Lib.hid (J1.out.same e3 (by simp))
      have S3 := Lib.hid (S1.out.trans_nil e3)
      have T3 := Lib.hid (e3.heap T1.out (by simp))
      clear e3 J1 S1 T1
      obtain ⟨p0, p1, p2, p3, p4⟩ := rpkt_cells T3.out
      obtain ⟨⟨c0, c1, c2, c3, c4, c5, c6⟩, f1, f2, f3, f4, f5, f6⟩ := J3.out.cells
      by_cases hz : body.size = 0
      case pos =>
        have HF := Lib.hid (show feedG pid S pp st c bad body = ⟨S, [], 0⟩ by rw [HY.out, if_pos (.inl hz)])
        obtain rfl : body = ⟨#[]⟩ := empty_of hz
        clear HY HH hz
        go_quiet (fail)
        go_wp2_with fail
        go_ret2
        rw [HF.out]
        exact ⟨.slice none 0 0, rfl, ⟨World.ownsRow_nil _ _ _ _, fun k hk => (by cases hk)⟩, ⟨_, _, HSC.out, J3.out.same (Same.drewN _ _) (by simp)⟩, (S3.out.trans_nil (Same.drewN _ _)).mono (by simp)⟩
      case neg =>
        obtain ⟨n1, n2⟩ := nonempty body (by omega)
        by_cases hse : S.seen = some (c, body)
        case pos =>
          have HF := Lib.hid (show feedG pid S pp st c bad body = ⟨S, [], 0⟩ by rw [HY.out, if_pos (.inr hse)])
          obtain ⟨h1, h2⟩ := HSC.out _ hse
          simp only at h1 h2
          subst h1 h2
          have hfl : S.seen.isSome = true := by rw [hse]; rfl
          rw [hfl] at c3
          have g1 : (sc == sc) = true := by simp
          have g2 : (sb.toList == sb.toList) = true := by simp
          clear HY HH hz hse hfl
          go_quiet (fail)
          go_wp2_with fail
          go_ret2
          rw [HF.out]
          exact ⟨.slice none 0 0, rfl, ⟨World.ownsRow_nil _ _ _ _, fun k hk => (by cases hk)⟩, ⟨_, _, HSC.out, J3.out.same (Same.drewN _ _) (by simp)⟩, (S3.out.trans_nil (Same.drewN _ _)).mono (by simp)⟩
        case neg =>
          have hx4 := HY.out
          rw [if_neg (by rintro (h | h); exact hz h; exact hse h)] at hx4
          have hbad : bad = true := by
            rcases HH.out with h | h | h | h | h
            · exact absurd CHK.out h
            · exact absurd hpp h
            · exact absurd h hz
            · exact absurd h hse
            · exact h
          subst hbad
          have HF := Lib.hid (show feedG pid S pp st c true body = ⟨⟨⟨#[]⟩, false, none, S.lost + 1⟩, [], 21⟩ by rw [hx4]; rfl)
          have hlw : IntKind.i64.wrap (S.lost + 1) = S.lost + 1 := IntWalk.i64_in _ (by obtain ⟨_, _, l0, l1⟩ := HK.out; omega)
          have hrc := ref_cases HK.out HSC.out hse r0 r1
          clear HY HH hz hse hx4
          generalize S.seen.isSome = sn at *
          rcases hrc with ⟨rfl, _⟩ | ⟨rfl, g1, _⟩ | ⟨rfl, g1, g2, _⟩
          all_goals
            go_quiet (fail)
            have HD := Lib.hid (rlose_any (J3.out.same (Same.drewN w3 nq) (by simp)))
            go_wp2_with fail
            (with_reducible refine HD.out.mono ?_)
            rintro e w4 ⟨rfl, j4, s4⟩
            have J4 := Lib.hid j4; have S4 := Lib.hid s4
            clear p0 p1 p2 p3 p4 c0 c1 c2 c3 c4 c5 c6 f1 f2 f3 f4 f5 f6 HD
            obtain ⟨⟨c0, c1, c2, c3, c4, c5, c6⟩, f1, f2, f3, f4, f5, f6⟩ := j4.cells
            clear j4 s4
            go_wp2_with fail
            go_ret2
            rw [HF.out]
            refine ⟨.slice none 0 0, rfl, ⟨World.ownsRow_nil _ _ _ _, fun k hk => (by cases hk)⟩, ⟨_, _, fun p hp => (by cases hp), (J4.out.set_sn _).set_lost _⟩, ?_⟩
            exact ((((S3.out.trans_nil (Same.drewN _ _)).mono (T := [b]) (by simp)).trans S4.out (fun x hx _ => hx)).setCell (by simp) _).setCell (by simp) _

end Go.Proofs.Ytpnbhgmcfooppaa
