/- Feeding a packet, in the program: where its body is taken. Conditions: what is held is not too much. Feeding a packet: in the program, whatever packet; in the reference, where nothing is taken. Conditions: what is held is not too much. Feeding a packet, in the reference: where its body is taken, and whatever packet. Conditions: what is held is not too much. -/
import Derived.Test.YtpkpfebhdgbgbaaGreatDoorTJJn7
namespace Go.Proofs.YtpkpfebhdgbgbaaGreatDoor.J
open Go.RowKit
set_option linter.unusedSimpArgs false
set_option linter.unusedVariables false

/-- What is held when the body is taken, and what is told of the count. -/
def nextS (S : JS) (c : Int) (body : ByteArray) : JS := if missed S c then ⟨⟨#[]⟩, false, some (c, body), S.lost + 1⟩ else ⟨S.hold, S.fol, some (c, body), S.lost⟩
def nextE (S : JS) (c : Int) : Int := if missed S c then 21 else 0
theorem feed_main {pid : Int} {S : JS} {st : Bool} {c : Int} {body : ByteArray} (hc0 : chkG pid c body = 0) (hz : ¬ body.size = 0) (hse : ¬ S.seen = some (c, body)) : feedG pid S pid st c false body = bodyG (nextS S c body) (nextE S c) st body := by
  unfold feedG nextS nextE
  rw [if_neg (by simpa using hc0), if_neg (by simp), if_neg (by rintro (h | h); exact hz h; exact hse h), if_neg (by simp)]
  cases missed S c <;> rfl

theorem miss_cases {S : JS} {n : Nat} (h : JOk S n) (c : Int) (body : ByteArray) :
    (decide (seenC S = 0 ∧ seenB S = (⟨#[]⟩ : ByteArray)) = true ∧ nextS S c body = ⟨S.hold, S.fol, some (c, body), S.lost⟩ ∧ nextE S c = 0) ∨
    (decide (seenC S = 0 ∧ seenB S = (⟨#[]⟩ : ByteArray)) = false ∧ 0 ≤ seenC S ∧ seenC S ≤ 15 ∧ (c != (seenC S + 1) % 16) = false ∧ nextS S c body = ⟨S.hold, S.fol, some (c, body), S.lost⟩ ∧ nextE S c = 0) ∨
    (decide (seenC S = 0 ∧ seenB S = (⟨#[]⟩ : ByteArray)) = false ∧ 0 ≤ seenC S ∧ seenC S ≤ 15 ∧ (c != (seenC S + 1) % 16) = true ∧ nextS S c body = ⟨⟨#[]⟩, false, some (c, body), S.lost + 1⟩ ∧ nextE S c = 21) := by
  obtain ⟨h1, _⟩ := h
  cases hs : S.seen with
  | none =>
    left
    have hm : missed S c = false := by unfold missed; rw [hs]
    unfold nextS nextE seenC seenB
    rw [hm, hs]; simp
  | some p =>
    right
    obtain ⟨g1, g2, g3⟩ := h1 p hs
    have e1 : seenC S = p.1 := by unfold seenC; rw [hs]
    have e2 : seenB S = p.2 := by unfold seenB; rw [hs]
    have hd : decide (seenC S = 0 ∧ seenB S = (⟨#[]⟩ : ByteArray)) = false := by
      rw [decide_eq_false_iff_not, e2]; rintro ⟨_, hb⟩; rw [hb] at g1; exact g1 rfl
    rw [hd, e1]
    by_cases hc : c = (p.1 + 1) % 16
    · left
      have hm : missed S c = false := by unfold missed; rw [hs]; simp [hc]
      unfold nextS nextE
      rw [hm]
      exact ⟨rfl, g2, g3, by simp [hc], rfl, rfl⟩
    · right
      have hm : missed S c = true := by unfold missed; rw [hs]; simp [hc]
      unfold nextS nextE
      rw [hm]
      exact ⟨rfl, g2, g3, by simpa using hc, rfl, rfl⟩

theorem begin_eq (S : JS) (R : ByteArray) (outs : List ByteArray) (err : Int) (h : ((⟨#[]⟩ : ByteArray) ++ R).size = R.size) :
    beginG S R outs err = ⟨⟨(takeG R.size (⟨#[]⟩ ++ R)).hold, !(takeG R.size (⟨#[]⟩ ++ R)).lose && true, S.seen, S.lost⟩, outs ++ (takeG R.size (⟨#[]⟩ ++ R)).outs, if (takeG R.size (⟨#[]⟩ ++ R)).ok then err else 12⟩ := by
  unfold beginG; rw [h]
theorem onward_len (S : JS) (s : ByteArray) (err : Int) : (onwardG S s err).outs.length ≤ S.hold.size + s.size := by
  unfold onwardG
  split
  · have := (takeG_len (S.hold ++ s).size (S.hold ++ s)).1
    rw [ByteArray.size_append] at this
    simpa using this
  · exact Nat.zero_le _

set_option maxRecDepth 100000 in
set_option maxHeartbeats 8000000 in
theorem jfeed_main {w : World} {b : Nat} {pid : Int} {S : JS} {n : Nat} (st : Bool) (c : Int) (body : ByteArray) (hj : IsJS w b pid S) (hk : JOk S n) (hn : n < 1000000000000)
    (hc0 : chkG pid c body = 0) (hz : ¬ body.size = 0) (hse : ¬ S.seen = some (c, body)) :
    Calls Tryz.prog 27 #[.pointer (some ⟨b, 0, none⟩), .agg #[.int .i64 pid, .bool st, .int .i64 c, .bool false, .string body]] w (FdPost w b pid (bodyG (nextS S c body) (nextE S c) st body)) := by
  have hb := heap_lt hj
  have tb := heap_alloc_new w (.cells #[.int .i64 pid, .bool st, .int .i64 c, .bool false, .string body] 85)
  obtain ⟨i0, hi, hz0, hz1, hz2⟩ := info_parts Tryz.infoS
  obtain ⟨r0, r1, r2⟩ := chk_range hc0
  obtain ⟨n1, n2⟩ := nonempty body (by omega)
  have hpos0 : 0 < body.size := by omega
  have heq := fun W => eql_sight c body (seenC S) (seenB S) W
  rw [decide_eq_false (seen_ne hz hse)] at heq
  have hneq := fun W => neq_sight (seenC S) (seenB S) 0 ⟨#[]⟩ W
  have hlw : IntKind.i64.wrap (S.lost + 1) = S.lost + 1 := IntWalk.i64_in _ (by obtain ⟨_, _, l0, l1⟩ := hk; omega)
  have hps : (pid != pid) = false := by simp
  have hpt : (pid == pid) = true := by simp
  have hcs := miss_cases hk c body
  have HCS := Lib.hid hcs
  have hhs := hk.2.1
  have HHS := Lib.hid hhs
  have HNQ := Lib.hid hneq
  have HJ := Lib.hid hj; have TB := Lib.hid tb; have C0 := Lib.hid hc0
  clear hj hk tb hcs hhs hneq hz hse hc0
  go_enter Tryz.func27, Tryz.ntmps27
  go_wp2_with fail
  (with_reducible refine (pcheck_any pid st c false body _).mono ?_)
  rintro e w1 ⟨rfl, s1⟩
  have J1 := Lib.hid (show IsJS w1 b pid S from (HJ.out.same ((Same.refl [] w).alloc _) (by simp)).same s1 (by simp))
  have T1 := Lib.hid (s1.heap TB.out (by simp))
  have S1 := Lib.hid (((Same.refl [] w).alloc (.cells #[.int .i64 pid, .bool st, .int .i64 c, .bool false, .string body] 85)).trans_nil s1)
  clear s1 HJ TB
  rw [C0.out]
  obtain ⟨p0, p1, p2, p3, p4⟩ := pkt_cells T1.out
  go_upto_region 7 with fail
  have hq := heap_alloc_new w1 (.cells #[.int .i64 c, .string body] 146)
  have s2 := S1.out.alloc (.cells #[.int .i64 c, .string body] 146)
  have j2 : IsJS (w1.alloc (.cells #[.int .i64 c, .string body] 146)) b pid S := J1.out.same ((Same.refl [] w1).alloc _) (by simp)
  have t2 := (Below.heap_alloc w1 (.cells #[.int .i64 c, .string body] 146) w.heap.size (heap_lt T1.out)).trans T1.out
  clear p0 p1 p2 p3 p4
  obtain ⟨Q, hQ⟩ : ∃ Q, Q = w1.heap.size := ⟨_, rfl⟩
  have hQb : b < Q := by have := heap_lt J1.out; omega
  rw [← hQ] at hq ⊢
  clear hQ J1 T1 S1
  generalize w1.alloc (.cells #[.int .i64 c, .string body] 146) = w2 at *
  obtain ⟨p0, p1, p2, p3, p4⟩ := pkt_cells t2
  obtain ⟨q0, q1⟩ := sight_cells hq
  obtain ⟨⟨c0, c1, c2, c3, c4, c5⟩, f1, f2, f3, f4, f5⟩ := (show IsJ w2 b pid S.hold S.fol (seenC S) (seenB S) S.lost from j2).cells
  have J2 := Lib.hid j2; have S2 := Lib.hid s2; have T2 := Lib.hid t2; have Q2 := Lib.hid hq
  clear j2 s2 t2 hq
  go_quiet (fail)
  go_upto_region 9 with fail
  obtain ⟨w3, hw3⟩ : ∃ w3, w3 = w2.drewN nq := ⟨_, rfl⟩
  have e3 : Same [] w2 w3 := by rw [hw3]; exact Same.drewN _ _
  rw [← hw3]
  clear hw3 p0 p1 p2 p3 p4 q0 q1 c0 c1 c2 c3 c4 c5 f1 f2 f3 f4 f5
  have J3 := Lib.hid (show IsJS w3 b pid S from J2.out.same e3 (by simp))
  have S3 := Lib.hid (S2.out.trans_nil e3)
  have T3 := Lib.hid (e3.heap T2.out (by simp))
  have Q3 := Lib.hid (e3.heap Q2.out (by simp))
  clear e3 J2 S2 T2 Q2 nq
  obtain ⟨p0, p1, p2, p3, p4⟩ := pkt_cells T3.out
  obtain ⟨q0, q1⟩ := sight_cells Q3.out
  obtain ⟨⟨c0, c1, c2, c3, c4, c5⟩, f1, f2, f3, f4, f5⟩ := (show IsJ w3 b pid S.hold S.fol (seenC S) (seenB S) S.lost from J3.out).cells
  go_quiet (fail)
  go_upto_region 16 with fail
  obtain ⟨w4, hw4⟩ : ∃ w4, w4 = w3.drewN nq := ⟨_, rfl⟩
  have e4 : Same [] w3 w4 := by rw [hw4]; exact Same.drewN _ _
  rw [← hw4]
  clear hw4 p0 p1 p2 p3 p4 q0 q1 c0 c1 c2 c3 c4 c5 f1 f2 f3 f4 f5 heq
  have J4 := Lib.hid (show IsJS w4 b pid S from J3.out.same e4 (by simp))
  have S4 := Lib.hid (S3.out.trans_nil e4)
  have T4 := Lib.hid (e4.heap T3.out (by simp))
  have Q4 := Lib.hid (e4.heap Q3.out (by simp))
  clear e4 J3 S3 T3 Q3 nq
  obtain ⟨p0, p1, p2, p3, p4⟩ := pkt_cells T4.out
  obtain ⟨q0, q1⟩ := sight_cells Q4.out
  obtain ⟨⟨c0, c1, c2, c3, c4, c5⟩, f1, f2, f3, f4, f5⟩ := (show IsJ w4 b pid S.hold S.fol (seenC S) (seenB S) S.lost from J4.out).cells
  rcases HCS.out with ⟨d0, hS, hE⟩ | ⟨d0, d1, d2, d3, hS, hE⟩ | ⟨d0, d1, d2, d3, hS, hE⟩
  all_goals
    have hneq := HNQ.out
    simp only [d0, Bool.not_true, Bool.not_false] at hneq
    have HSx := Lib.hid hS; have HEx := Lib.hid hE
    clear hS hE d0
    go_quiet (fail)
    clear hneq
  case' inl =>
    go_upto_region 20 with fail
    obtain ⟨w6, hw6⟩ : ∃ w6, w6 = w4.drewN nq := ⟨_, rfl⟩
    have e6 : Same [] w4 w6 := by rw [hw6]; exact Same.drewN _ _
    rw [← hw6]
    clear hw6
    have J6 := Lib.hid (show IsJ w6 b pid S.hold S.fol (seenC S) (seenB S) S.lost from J4.out.same e6 (by simp))
    have S6 := Lib.hid ((S4.out.trans_nil e6).mono (T := [b]) (by simp))
    have T6 := Lib.hid (e6.heap T4.out (by simp))
    have Q6 := Lib.hid (e6.heap Q4.out (by simp))
    have Z6 := Lib.hid (show S.hold.size ≤ n from HHS.out)
    have HSy := HSx
    generalize S.hold = H6 at *
    generalize S.fol = F6 at *
    generalize S.lost = L6 at *
    clear e6 HSx hlw p0 p1 p2 p3 p4 q0 q1 c0 c1 c2 c3 c4 c5 f1 f2 f3 f4 f5
  case' inr.inl =>
    go_upto_region 20 with fail
    obtain ⟨w6, hw6⟩ : ∃ w6, w6 = w4.drewN nq := ⟨_, rfl⟩
    have e6 : Same [] w4 w6 := by rw [hw6]; exact Same.drewN _ _
    rw [← hw6]
    clear hw6
    have J6 := Lib.hid (show IsJ w6 b pid S.hold S.fol (seenC S) (seenB S) S.lost from J4.out.same e6 (by simp))
    have S6 := Lib.hid ((S4.out.trans_nil e6).mono (T := [b]) (by simp))
    have T6 := Lib.hid (e6.heap T4.out (by simp))
    have Q6 := Lib.hid (e6.heap Q4.out (by simp))
    have Z6 := Lib.hid (show S.hold.size ≤ n from HHS.out)
    have HSy := HSx
    generalize S.hold = H6 at *
    generalize S.fol = F6 at *
    generalize S.lost = L6 at *
    clear e6 HSx hlw p0 p1 p2 p3 p4 q0 q1 c0 c1 c2 c3 c4 c5 f1 f2 f3 f4 f5
  case' inr.inr =>
    have HL := Lib.hid (jlose_any (show IsJ (w4.drewN nq) b pid S.hold S.fol (seenC S) (seenB S) S.lost from J4.out.same (Same.drewN _ _) (by simp)))
    go_wp2_with fail
    (with_reducible refine HL.out.mono ?_)
    rintro e w5 ⟨rfl, j5, s5⟩
    have J5 := Lib.hid j5
    have S5 := Lib.hid (show Same [b] w4 w5 from ((Same.drewN w4 nq).mono (T := [b]) (by simp)).trans s5 (fun x hx _ => hx))
    clear p0 p1 p2 p3 p4 q0 q1 c0 c1 c2 c3 c4 c5 f1 f2 f3 f4 f5 HL
    obtain ⟨⟨c0, c1, c2, c3, c4, c5⟩, f1, f2, f3, f4, f5⟩ := j5.cells
    clear j5 s5
    go_upto_region 20 with fail
    obtain ⟨w6, hw6⟩ : ∃ w6, w6 = w5.setCell ⟨b, 5, none⟩ (.int .i64 (S.lost + 1)) := ⟨_, rfl⟩
    have e6 : Same [b] w4 w6 := by rw [hw6]; exact S5.out.setCell (by simp) _
    have j6 : IsJ w6 b pid ⟨#[]⟩ false (seenC S) (seenB S) (S.lost + 1) := by rw [hw6]; exact J5.out.set_lost _
    rw [← hw6]
    clear hw6
    have S6 := Lib.hid ((S4.out.mono (T := [b]) (by simp)).trans e6 (fun x hx _ => hx))
    have T6 := Lib.hid (e6.heap T4.out (by simp; omega))
    have Q6 := Lib.hid (e6.heap Q4.out (by simp; omega))
    obtain ⟨H6, hH6⟩ : ∃ H6 : ByteArray, H6 = ⟨#[]⟩ := ⟨_, rfl⟩
    obtain ⟨F6, hF6⟩ : ∃ F6 : Bool, F6 = false := ⟨_, rfl⟩
    obtain ⟨L6, hL6⟩ : ∃ L6 : Int, L6 = S.lost + 1 := ⟨_, rfl⟩
    have J6 := Lib.hid (show IsJ w6 b pid H6 F6 (seenC S) (seenB S) L6 by rw [hH6, hF6, hL6]; exact j6)
    have Z6 := Lib.hid (show H6.size ≤ n by rw [hH6]; exact Nat.zero_le _)
    have HSy := Lib.hid (show nextS S c body = ⟨H6, F6, some (c, body), L6⟩ by rw [hH6, hF6, hL6]; exact HSx.out)
    clear e6 j6 hH6 hF6 hL6 HSx J5 S5 hlw c0 c1 c2 c3 c4 c5 f1 f2 f3 f4 f5 d1 d2 d3
  all_goals
    clear HCS HHS HNQ S4 T4 Q4 J4 C0
    obtain ⟨p0, p1, p2, p3, p4⟩ := pkt_cells T6.out
    obtain ⟨q0, q1⟩ := sight_cells Q6.out
    obtain ⟨⟨c0, c1, c2, c3, c4, c5⟩, f1, f2, f3, f4, f5⟩ := J6.out.cells
    have hj7 : IsJS ((w6.setCell ⟨b, 3, none⟩ (.int .i64 c)).setCell ⟨b, 4, none⟩ (.string body)) b pid ⟨H6, F6, some (c, body), L6⟩ := (J6.out.set_c c).set_bd body
    have hs7 : Same [b] w ((w6.setCell ⟨b, 3, none⟩ (.int .i64 c)).setCell ⟨b, 4, none⟩ (.string body)) := (S6.out.setCell (by simp) _).setCell (by simp) _
    have ht7 : ((w6.setCell ⟨b, 3, none⟩ (.int .i64 c)).setCell ⟨b, 4, none⟩ (.string body)).heap[w.heap.size]? = some (.cells #[.int .i64 pid, .bool st, .int .i64 c, .bool false, .string body] 85 (0, 0)) := by
      rw [set_other _ (by omega), set_other _ (by omega)]; exact T6.out
    go_upto_region 21 with fail
    clear p0 p1 p2 p3 p4 q0 q1 c0 c1 c2 c3 c4 c5 f1 f2 f3 f4 f5
    generalize (w6.setCell ⟨b, 3, none⟩ (.int .i64 c)).setCell ⟨b, 4, none⟩ (.string body) = w7 at *
    obtain ⟨p0, p1, p2, p3, p4⟩ := pkt_cells ht7
    have J7 := Lib.hid hj7; have S7 := Lib.hid hs7
    clear hj7 hs7 ht7 T6 Q6 J6 S6
    have hb7 : b < w7.heap.size := heap_lt J7.out
    cases st with
    | false =>
      have HO := Lib.hid (onward_any (S := ⟨H6, F6, some (c, body), L6⟩) body (nextE S c) J7.out (by have := Z6.out; show H6.size + body.size < _; omega))
      rw [HEx.out] at HO
      have HB := Lib.hid (show bodyG (nextS S c body) (nextE S c) false body = onwardG ⟨H6, F6, some (c, body), L6⟩ body (nextE S c) by rw [HSy.out]; exact if_pos rfl)
      rw [HEx.out] at HB
      go_wp2_with fail
      (with_reducible refine HO.out.mono ?_)
      rintro e w8 ⟨v, he, ho, j8, s8⟩
      have H8 := Lib.hid ho; have J8 := Lib.hid j8; have S8 := Lib.hid s8
      generalize onwardG ⟨H6, F6, some (c, body), L6⟩ body _ = r at *
      obtain ⟨rs, rl, re⟩ := r
      simp only at he
      subst he
      clear ho j8 s8 HO p0 p1 p2 p3 p4
      go_wp2_with fail
      go_ret2
      rw [HEx.out, HB.out]
      exact ⟨v, rfl, ⟨H8.out.1, fun k hk => by have := H8.out.2 k hk; have := S7.out.size; omega⟩, J8.out, S7.out.trans S8.out (fun x hx _ => hx)⟩
    | true =>
      obtain ⟨R, hR⟩ : ∃ R, R = body.extract 1 body.size := ⟨_, rfl⟩
      obtain ⟨r, hr⟩ : ∃ r, r = byteOf body 0 := ⟨_, rfl⟩
      have hRz : R.size = body.size - 1 := by rw [hR]; exact size_extract body 1 body.size (by omega) (Nat.le_refl _)
      have hb0 := byteOf_at body 0 hpos0
      have hrl := byteOf_lt body 0
      rw [← hr] at hb0 hrl
      have hpi : (0 : Int) < (body.size : Int) := by omega
      have hpj : (1 : Int) ≤ (body.size : Int) := by omega
      have hR2 := hR.symm
      have HR := Lib.hid hR; have Hr := Lib.hid hr
      clear hR hr
      go_upto_region 23 with fail
      go_quiet (fail)
      obtain ⟨w8, hw8⟩ : ∃ w8, w8 = w7.drewN nq := ⟨_, rfl⟩
      have e8 : Same [] w7 w8 := by rw [hw8]; exact Same.drewN _ _
      rw [← hw8]
      have J8 := Lib.hid (show IsJS w8 b pid ⟨H6, F6, some (c, body), L6⟩ from J7.out.same e8 (by simp))
      have S8 := Lib.hid (S7.out.trans_nil e8)
      clear hw8 e8 p0 p1 p2 p3 p4 J7 S7 hR2 hb0
      by_cases hgt : body.size - 1 < r
      · have hgi : (R.size : Int) < (r : Int) := by omega
        have HB := Lib.hid (show bodyG (nextS S c body) (nextE S c) true body = ⟨⟨⟨#[]⟩, false, some (c, body), L6⟩, [], 12⟩ by rw [HSy.out, bodyG, if_neg (by simp), ← Hr.out, if_pos hgt])
        have HL := Lib.hid (jlose_any (show IsJ w8 b pid H6 F6 c body L6 from J8.out))
        clear hRz hgt
        go_wp2_with fail
        (with_reducible refine HL.out.mono ?_)
        rintro e w9 ⟨rfl, j9, s9⟩
        have J9 := Lib.hid j9; have S9 := Lib.hid s9
        clear j9 s9 HL
        go_wp2_with fail
        go_ret2
        rw [HB.out]
        exact ⟨.slice none 0 0, rfl, ⟨World.ownsRow_nil _ _ _ _, fun k hk => (by cases hk)⟩, J9.out, S8.out.trans S9.out (fun x hx _ => hx)⟩
      · have hgi : ¬ (R.size : Int) < (r : Int) := by omega
        have hgj : (r : Int) ≤ (R.size : Int) := by omega
        obtain ⟨R1, hR1⟩ : ∃ R1, R1 = R.extract 0 r := ⟨_, rfl⟩
        obtain ⟨R2, hR2⟩ : ∃ R2, R2 = R.extract r R.size := ⟨_, rfl⟩
        have hz1 : R1.size = r := by rw [hR1, size_extract _ _ _ (by omega) (by omega)]; omega
        have hz2 : R2.size = R.size - r := by rw [hR2, size_extract _ _ _ (by omega) (Nat.le_refl _)]
        have HB := Lib.hid (show bodyG (nextS S c body) (nextE S c) true body = beginG (onwardG ⟨H6, F6, some (c, body), L6⟩ R1 (nextE S c)).st R2 (onwardG ⟨H6, F6, some (c, body), L6⟩ R1 (nextE S c)).outs (onwardG ⟨H6, F6, some (c, body), L6⟩ R1 (nextE S c)).err by
          rw [HSy.out, bodyG, if_neg (by simp), ← Hr.out, if_neg hgt, ← HR.out, ← hR1, ← hR2])
        have HO := Lib.hid (onward_any (S := ⟨H6, F6, some (c, body), L6⟩) R1 (nextE S c) J8.out (by have := Z6.out; show H6.size + R1.size < _; omega))
        have hol := onward_len ⟨H6, F6, some (c, body), L6⟩ R1 (nextE S c)
        rw [HEx.out] at HO HB hol
        have hx1 := hR1.symm; have hx2 := hR2.symm
        have Z12 := Lib.hid (show R1.size ≤ 200 ∧ R2.size ≤ 200 from ⟨by omega, by omega⟩)
        clear hR1 hR2 hz1 hz2 hgt hRz
        go_wp2_with fail
        (with_reducible refine HO.out.mono ?_)
        rintro e w9 ⟨v, he, ho, j9, s9⟩
        have H9 := Lib.hid ho; have S9 := Lib.hid s9
        generalize onwardG ⟨H6, F6, some (c, body), L6⟩ R1 _ = q at *
        obtain ⟨⟨qh, qf, qs, ql⟩, qo, qe⟩ := q
        simp only at he hol
        subst he
        have hb9 : b < w9.heap.size := heap_lt j9
        obtain ⟨⟨c0, c1, c2, c3, c4, c5⟩, f1, f2, f3, f4, f5⟩ := (show IsJ w9 b pid qh qf (seenC ⟨qh, qf, qs, ql⟩) (seenB ⟨qh, qf, qs, ql⟩) ql from j9).cells
        have J9 := Lib.hid (show IsJ w9 b pid qh qf (seenC ⟨qh, qf, qs, ql⟩) (seenB ⟨qh, qf, qs, ql⟩) ql from j9)
        clear ho j9 s9 HO
        go_wp2_with fail
        have j10 : IsJ ((w9.setCell ⟨b, 1, none⟩ (.string ⟨#[]⟩)).setCell ⟨b, 2, none⟩ (.bool true)) b pid ⟨#[]⟩ true (seenC ⟨qh, qf, qs, ql⟩) (seenB ⟨qh, qf, qs, ql⟩) ql := (J9.out.set_hold _).set_fol _
        have s10 : Same [b] w9 ((w9.setCell ⟨b, 1, none⟩ (.string ⟨#[]⟩)).setCell ⟨b, 2, none⟩ (.bool true)) := ((Same.refl [b] w9).setCell (by simp) _).setCell (by simp) _
        clear c0 c1 c2 c3 c4 c5 f1 f2 f3 f4 f5
        generalize (w9.setCell ⟨b, 1, none⟩ (.string ⟨#[]⟩)).setCell ⟨b, 2, none⟩ (.bool true) = w10 at *
        have hzz : ((⟨#[]⟩ : ByteArray) ++ R2).size = R2.size := by rw [ByteArray.size_append]; show 0 + _ = _; omega
        have htl := (takeG_len ((⟨#[]⟩ : ByteArray) ++ R2).size (⟨#[]⟩ ++ R2)).1
        rw [hzz] at htl
        have ht := jtake_any R2 j10 (by have := Z12.out; show 0 + _ < _; omega)
        have HBG := Lib.hid (begin_eq ⟨qh, qf, qs, ql⟩ R2 qo qe hzz)
        rw [hzz] at ht
        clear hzz
        generalize takeG R2.size (⟨#[]⟩ ++ R2) = t at *
        obtain ⟨tl, th, tlo, tok⟩ := t
        simp only at ht htl
        have HT := Lib.hid ht
        have S10 := Lib.hid (((S8.out.trans S9.out (fun x hx _ => hx))).trans s10 (fun x hx _ => hx))
        have hsz9 := S8.out.size
        have HV := Lib.hid (show NewStrs w w10 v qo from ⟨own_same H9.out.1 s10 (fun x hx hm => by have := H9.out.2 x hx; simp at hm; omega), fun x hx => by have := H9.out.2 x hx; omega⟩)
        clear ht j10 s10 J9 H9
        (with_reducible refine HT.out.mono ?_)
        rintro e w11 ⟨v2, he, ho, j11, s11⟩
        obtain ⟨e2, he2⟩ : ∃ e2 : Int, e2 = (if tok = true then 0 else 12) := ⟨_, rfl⟩
        rw [← he2] at he
        subst he
        have HV1 := Lib.hid (own_same HV.out.1 s11 (fun x hx hm => by have := HV.out.2 x hx; simp at hm; omega))
        have HV2 := Lib.hid ho.1
        have J11 := Lib.hid j11
        have S11 := Lib.hid (S10.out.trans s11 (fun x hx _ => hx))
        have hsz10 := S10.out.size
        have hsz11 := s11.size
        obtain ⟨e3, he3⟩ : ∃ e3 : Int, e3 = worseG e2 qe := ⟨_, rfl⟩
        have HE3 := Lib.hid (show e3 = if tok = true then qe else 12 by rw [he3, he2, worse_take])
        clear ho j11 s11 HT he2
        have hlen1 : qo.length ≤ 1000000001000 := by have := Z6.out; have := Z12.out; show qo.length ≤ _; have h3 : qo.length ≤ H6.size + R1.size := hol; omega
        have hlen2 : tl.length ≤ 1000 := by have := Z12.out; omega
        clear hol htl
        go_wp2_with (first
          | (at_builtin; refine wpList_append_src rfl (.tmp 135) (.tmp 136) 74 rfl 0 9 i0 (.string ByteArray.empty) 1 16 Tryz.underlying74 hi hz0 hz1 hz2 rfl (by decide) v qo.length (strVals qo) rfl HV1.out v2 tl.length (strVals tl) rfl (Reads.of_own HV2.out) (one_strs tl) (by unfold maxLen; omega) (by omega) (by simp) ?_; intro v3 w12 hown hgrow hat; have HOWN := Lib.hid hown; have HG := Lib.hid hgrow; have HAT := Lib.hid hat; clear hown hgrow hat)
          | (go_at_call 73; (with_reducible refine (worse_any _ _ _).mono ?_); rintro e w' ⟨rfl, rfl⟩; rw [← he3])
          | go_in)
        go_ret2
        rw [HEx.out, HB.out, HBG.out]
        have hs12 := Same.of_grown HG.out
        refine ⟨v3, by rw [← HE3.out, he3]; rfl, ⟨by have := HOWN.out; simpa [strVals] using this, fun x hx => ?_⟩, J11.out.same hs12 (fun hm => by have := HV.out.2 b (by simpa using hm); omega), S11.out.trans hs12 (fun x hx hlt => by have := HV.out.2 x (by simpa using hx); omega)⟩
        rcases HAT.out with e | e
        · rw [e] at hx; exact HV.out.2 x hx
        · rw [e] at hx; cases hx; omega

end Go.Proofs.YtpkpfebhdgbgbaaGreatDoor.J
namespace Go.Proofs.YtpkpfebhdgbgbaaGreatDoor.J
open Go.RowKit
set_option linter.unusedSimpArgs false
set_option linter.unusedVariables false

theorem jfeed_any {w : World} {b : Nat} {pid : Int} {S : JS} {n : Nat} (pp : Int) (st : Bool) (c : Int) (bad : Bool) (body : ByteArray) (hj : IsJS w b pid S) (hk : JOk S n) (hn : n < 1000000000000) :
    Calls Tryz.prog 27 #[.pointer (some ⟨b, 0, none⟩), .agg #[.int .i64 pp, .bool st, .int .i64 c, .bool bad, .string body]] w (FdPost w b pid (feedG pid S pp st c bad body)) := by
  by_cases h : chkG pp c body ≠ 0 ∨ pp ≠ pid ∨ body.size = 0 ∨ S.seen = some (c, body) ∨ bad = true
  · exact jfeed_early pp st c bad body hj hk hn h
  · have h1 : chkG pp c body = 0 := Decidable.byContradiction fun e => h (.inl e)
    have h2 : pp = pid := Decidable.byContradiction fun e => h (.inr (.inl e))
    have h3 : ¬ body.size = 0 := fun e => h (.inr (.inr (.inl e)))
    have h4 : ¬ S.seen = some (c, body) := fun e => h (.inr (.inr (.inr (.inl e))))
    have h5 : bad = false := by cases bad; rfl; exact absurd (.inr (.inr (.inr (.inr rfl)))) h
    subst h2 h5
    rw [feed_main h1 h3 h4]
    exact jfeed_main st c body hj hk hn h1 h3 h4

/-- What the reference compares. -/
theorem ref_cases {S : JS} {n : Nat} (hk : JOk S n) {c c' : Int} {body bd : ByteArray} (hc : ∀ p, S.seen = some p → c' = p.1 ∧ bd = p.2) (hs : ¬ S.seen = some (c, body)) (h0 : 0 ≤ c) (h1 : c ≤ 15) :
    (S.seen.isSome = false ∧ missed S c = false) ∨ (S.seen.isSome = true ∧ (c == c') = false ∧ 0 ≤ c' ∧ c' ≤ 15 ∧ (c != (c' + 1) % 16) = missed S c) ∨
    (S.seen.isSome = true ∧ (c == c') = true ∧ (body.toList == bd.toList) = false ∧ 0 ≤ c' ∧ c' ≤ 15 ∧ (c != (c' + 1) % 16) = missed S c) := by
  cases h : S.seen with
  | none => left; exact ⟨rfl, by unfold missed; rw [h]⟩
  | some p =>
    right
    obtain ⟨g1, g2⟩ := hc p h
    obtain ⟨k1, k2, k3⟩ := hk.1 p h
    have hm : (c != (c' + 1) % 16) = missed S c := by
      unfold missed; rw [h, g1]
      by_cases e : c = (p.1 + 1) % 16
      · simp [e]
      · simp [e]
    rw [h] at hs
    by_cases e : c = c'
    · right
      refine ⟨rfl, by simp [e], ?_, by omega, by omega, hm⟩
      rw [beq_eq_false_iff_ne]
      intro hl
      apply hs
      rw [toList_inj hl, e, g1, g2]
    · left
      exact ⟨rfl, by simpa using e, by omega, by omega, hm⟩

end Go.Proofs.YtpkpfebhdgbgbaaGreatDoor.J
namespace Go.Proofs.YtpkpfebhdgbgbaaGreatDoor.J
open Go.RowKit
set_option linter.unusedSimpArgs false
set_option linter.unusedVariables false

theorem ref_main_cases {S : JS} {n : Nat} (hk : JOk S n) {c c' : Int} {body bd : ByteArray} (hc : ∀ p, S.seen = some p → c' = p.1 ∧ bd = p.2) (hs : ¬ S.seen = some (c, body)) (h0 : 0 ≤ c) (h1 : c ≤ 15) :
    (S.seen.isSome = false ∧ nextS S c body = ⟨S.hold, S.fol, some (c, body), S.lost⟩ ∧ nextE S c = 0) ∨
    (S.seen.isSome = true ∧ (c == c') = false ∧ 0 ≤ c' ∧ c' ≤ 15 ∧ (c != (c' + 1) % 16) = false ∧ nextS S c body = ⟨S.hold, S.fol, some (c, body), S.lost⟩ ∧ nextE S c = 0) ∨
    (S.seen.isSome = true ∧ (c == c') = true ∧ (body.toList == bd.toList) = false ∧ 0 ≤ c' ∧ c' ≤ 15 ∧ (c != (c' + 1) % 16) = false ∧ nextS S c body = ⟨S.hold, S.fol, some (c, body), S.lost⟩ ∧ nextE S c = 0) ∨
    (S.seen.isSome = true ∧ (c == c') = false ∧ 0 ≤ c' ∧ c' ≤ 15 ∧ (c != (c' + 1) % 16) = true ∧ nextS S c body = ⟨⟨#[]⟩, false, some (c, body), S.lost + 1⟩ ∧ nextE S c = 21) ∨
    (S.seen.isSome = true ∧ (c == c') = true ∧ (body.toList == bd.toList) = false ∧ 0 ≤ c' ∧ c' ≤ 15 ∧ (c != (c' + 1) % 16) = true ∧ nextS S c body = ⟨⟨#[]⟩, false, some (c, body), S.lost + 1⟩ ∧ nextE S c = 21) := by
  unfold nextS nextE
  rcases ref_cases hk hc hs h0 h1 with ⟨a1, a2⟩ | ⟨a1, a2, a3, a4, a5⟩ | ⟨a1, a2, a3, a4, a5, a6⟩
  · left; rw [a2]; exact ⟨a1, rfl, rfl⟩
  · cases hm : missed S c with
    | false => right; left; rw [hm] at a5; exact ⟨a1, a2, a3, a4, a5, rfl, rfl⟩
    | true => right; right; right; left; rw [hm] at a5; exact ⟨a1, a2, a3, a4, a5, rfl, rfl⟩
  · cases hm : missed S c with
    | false => right; right; left; rw [hm] at a6; exact ⟨a1, a2, a3, a4, a5, a6, rfl, rfl⟩
    | true => right; right; right; right; rw [hm] at a6; exact ⟨a1, a2, a3, a4, a5, a6, rfl, rfl⟩

theorem onward_off (H : ByteArray) (sn : Option (Int × ByteArray)) (L : Int) (s : ByteArray) (e : Int) : onwardG ⟨H, false, sn, L⟩ s e = ⟨⟨H, false, sn, L⟩, [], e⟩ := if_neg (by simp)
theorem onward_on (H : ByteArray) (sn : Option (Int × ByteArray)) (L : Int) (s : ByteArray) (e : Int) : onwardG ⟨H, true, sn, L⟩ s e =
    ⟨⟨(takeG (H ++ s).size (H ++ s)).hold, !(takeG (H ++ s).size (H ++ s)).lose && true, sn, L⟩, (takeG (H ++ s).size (H ++ s)).outs, if (takeG (H ++ s).size (H ++ s)).ok then e else 12⟩ := if_pos rfl

end Go.Proofs.YtpkpfebhdgbgbaaGreatDoor.J
