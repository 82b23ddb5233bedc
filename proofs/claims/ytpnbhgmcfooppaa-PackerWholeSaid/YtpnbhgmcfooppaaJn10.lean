/- Feeding a packet, in the reference: where its body is taken, and whatever packet. Conditions: what is held is not too much. -/
import Derived.Test.YtpnbhgmcfooppaaJn9
namespace Go.Proofs.Ytpnbhgmcfooppaa
open Go.RowKit
set_option linter.unusedSimpArgs false
set_option linter.unusedVariables false

theorem ref_main_cases {S : JS} {n : Nat} (hk : JOk S n) {c c' : Int} {body bd : ByteArray} (hc : ∀ p, S.seen = some p → c' = p.1 ∧ bd = p.2) (hs : ¬ S.seen = some (c, body)) (h0 : 0 ≤ c) (h1 : c ≤ 15) :
    (S.seen.isSome = false ∧ nextS S c body = ⟨S.hold, S.fol, some (c, body), S.lost⟩ ∧ nextE S c = 0) ∨
    (S.seen.isSome = true ∧ (c == c') = false ∧ 0 ≤ c' ∧ c' ≤ 15 ∧ (c != (c' + 1) % 16) = false ∧ nextS S c body = ⟨S.hold, S.fol, some (c, body), S.lost⟩ ∧ nextE S c = 0) ∨
    (S.seen.isSome = true ∧ (c == c') = true ∧ (body.toList == bd.toList) = false ∧ 0 ≤ c' ∧ c' ≤ 15 ∧ (c != (c' + 1) % 16) = false ∧ nextS S c body = ⟨S.hold, S.fol, some (c, body), S.lost⟩ ∧ nextE S c = 0) ∨
    (S.seen.isSome = true ∧ (c == c') = false ∧ 0 ≤ c' ∧ c' ≤ 15 ∧ (c != (c' + 1) % 16) = true ∧ nextS S c body = ⟨⟨#[]⟩, false, some (c, body), S.lost + 1⟩ ∧ nextE S c = 21) ∨
    (S.seen.isSome = true ∧ (c == c') = true ∧ (body.toList == bd.toList) = false ∧ 0 ≤ c' ∧ c' ≤ 15 ∧ (c != (c' + 1) % 16) = true ∧ nextS S c body = ⟨⟨#[]⟩, false, some (c, body), S.lost + 1⟩ ∧ nextE S c = 21) := by
  unfold nextS nextE
  rcases ref_cases hk hc hs h0 h1 with ⟨a1, a2⟩ | ⟨a1, a2, a3, a4, a5⟩ | ⟨a1, a2, a3, a4, a5, a6⟩
  · left; rw [a2]; exact ⟨a1, rfl, rfl⟩
  · cases hm : missed S c with
    | false => right; left; rw [hm] at a5; exact ⟨a1, a2, a3, a4, a5, rfl, rfl⟩
    | true => right; right; right; left; rw [hm] at a5; exact ⟨a1, a2, a3, a4, a5, rfl, rfl⟩
  · cases hm : missed S c with
    | false => right; right; left; rw [hm] at a6; exact ⟨a1, a2, a3, a4, a5, a6, rfl, rfl⟩
    | true => right; right; right; right; rw [hm] at a6; exact ⟨a1, a2, a3, a4, a5, a6, rfl, rfl⟩

theorem onward_off (H : ByteArray) (sn : Option (Int × ByteArray)) (L : Int) (s : ByteArray) (e : Int) : onwardG ⟨H, false, sn, L⟩ s e = ⟨⟨H, false, sn, L⟩, [], e⟩ := if_neg (by simp)
theorem onward_on (H : ByteArray) (sn : Option (Int × ByteArray)) (L : Int) (s : ByteArray) (e : Int) : onwardG ⟨H, true, sn, L⟩ s e =
    ⟨⟨(takeG (H ++ s).size (H ++ s)).hold, !(takeG (H ++ s).size (H ++ s)).lose && true, sn, L⟩, (takeG (H ++ s).size (H ++ s)).outs, if (takeG (H ++ s).size (H ++ s)).ok then e else 12⟩ := if_pos rfl

set_option maxRecDepth 100000 in
set_option maxHeartbeats 8000000 in
theorem rfeed_main {w : World} {b : Nat} {pid : Int} {S : JS} {n : Nat} (st : Bool) (c : Int) (body : ByteArray) (hj : IsRS w b pid S) (hk : JOk S n) (hn : n < 1000000000000)
    (hc0 : chkG pid c body = 0) (hz : ¬ body.size = 0) (hse : ¬ S.seen = some (c, body)) :
    Calls Try.prog 12 #[.pointer (some ⟨b, 0, none⟩), .agg #[.int .i64 pid, .bool st, .int .i64 c, .bool false, .string body]] w (RFdPost w b pid (bodyG (nextS S c body) (nextE S c) st body)) := by
  obtain ⟨sc, sb, hsc, hj⟩ := hj
  have hb := heap_lt hj
  have tb := heap_alloc_new w (.cells #[.int .i64 pid, .bool st, .int .i64 c, .bool false, .string body] 37)
  obtain ⟨i0, hi, hz0, hz1, hz2⟩ := info_parts Try.infoS
  obtain ⟨r0, r1, r2⟩ := chk_range hc0
  obtain ⟨n1, n2⟩ := nonempty body (by omega)
  have hpos0 : 0 < body.size := by omega
  have hlw : IntKind.i64.wrap (S.lost + 1) = S.lost + 1 := IntWalk.i64_in _ (by obtain ⟨_, _, l0, l1⟩ := hk; omega)
  have hps : (pid != pid) = false := by simp
  have hpt : (pid == pid) = true := by simp
  have hcs := ref_main_cases hk hsc hse r0 r1
  have HHS := Lib.hid hk.2.1
  have HJ := Lib.hid hj; have TB := Lib.hid tb; have C0 := Lib.hid hc0
  clear hj hk tb hz hse hc0 hsc
  go_enter Try.func12, Try.ntmps12
  go_wp2_with fail
  (with_reducible refine (rpcheck_any pid st c false body _).mono ?_)
  rintro e w1 ⟨rfl, s1⟩
  have J1 := Lib.hid ((HJ.out.same ((Same.refl [] w).alloc (.cells #[.int .i64 pid, .bool st, .int .i64 c, .bool false, .string body] 37)) (by simp)).same s1 (by simp))
  have T1 := Lib.hid (s1.heap TB.out (by simp))
  have S1 := Lib.hid (((Same.refl [] w).alloc (.cells #[.int .i64 pid, .bool st, .int .i64 c, .bool false, .string body] 37)).trans_nil s1)
  clear s1 HJ TB
  rw [C0.out]
  obtain ⟨p0, p1, p2, p3, p4⟩ := rpkt_cells T1.out
  obtain ⟨⟨c0, c1, c2, c3, c4, c5, c6⟩, f1, f2, f3, f4, f5, f6⟩ := J1.out.cells
  go_upto_region 4 with fail
  go_quiet (fail)
  go_upto_region 6 with fail
  obtain ⟨w3, hw3⟩ : ∃ w3, w3 = w1.drewN nq := ⟨_, rfl⟩
  have e3 : Same [] w1 w3 := by rw [hw3]; exact Same.drewN _ _
  rw [← hw3]
  clear hw3 p0 p1 p2 p3 p4 c0 c1 c2 c3 c4 c5 c6 f1 f2 f3 f4 f5 f6
  have J3 := Lib.hid (J1.out.same e3 (by simp))
  have S3 := Lib.hid (S1.out.trans_nil e3)
  have T3 := Lib.hid (e3.heap T1.out (by simp))
  clear e3 J1 S1 T1 nq
  generalize S.seen.isSome = sn at *
  rcases hcs with ⟨hsn, hS, hE⟩ | ⟨hsn, g1, d1, d2, d3, hS, hE⟩ | ⟨hsn, g1, g2, d1, d2, d3, hS, hE⟩ | ⟨hsn, g1, d1, d2, d3, hS, hE⟩ | ⟨hsn, g1, g2, d1, d2, d3, hS, hE⟩
  all_goals
    have HSx := Lib.hid hS; have HEx := Lib.hid hE
    clear hS hE
    obtain ⟨p0, p1, p2, p3, p4⟩ := rpkt_cells T3.out
    obtain ⟨⟨c0, c1, c2, c3, c4, c5, c6⟩, f1, f2, f3, f4, f5, f6⟩ := J3.out.cells
    rw [hsn] at c3
    go_quiet (fail)
    go_upto_region 13 with fail
    obtain ⟨w4, hw4⟩ : ∃ w4, w4 = w3.drewN nq := ⟨_, rfl⟩
    have e4 : Same [] w3 w4 := by rw [hw4]; exact Same.drewN _ _
    rw [← hw4]
    clear hw4 p0 p1 p2 p3 p4 c0 c1 c2 c3 c4 c5 c6 f1 f2 f3 f4 f5 f6
    have J4 := Lib.hid (J3.out.same e4 (by simp))
    have S4 := Lib.hid (S3.out.trans_nil e4)
    have T4 := Lib.hid (e4.heap T3.out (by simp))
    clear e4 J3 S3 T3 nq
    obtain ⟨p0, p1, p2, p3, p4⟩ := rpkt_cells T4.out
    obtain ⟨⟨c0, c1, c2, c3, c4, c5, c6⟩, f1, f2, f3, f4, f5, f6⟩ := J4.out.cells
    rw [hsn] at c3
    go_quiet (fail)
    obtain ⟨w5, hw5⟩ : ∃ w5, w5 = w4.drewN nq := ⟨_, rfl⟩
    have e5 : Same [] w4 w5 := by rw [hw5]; exact Same.drewN _ _
    rw [← hw5]
    clear hw5 p0 p1 p2 p3 p4 c0 c1 c2 c3 c4 c5 c6 f1 f2 f3 f4 f5 f6
    have J5 := Lib.hid (J4.out.same e5 (by simp))
    have S5 := Lib.hid (S4.out.trans_nil e5)
    have T5 := Lib.hid (e5.heap T4.out (by simp))
    clear e5 J4 S4 T4 nq
    obtain ⟨p0, p1, p2, p3, p4⟩ := rpkt_cells T5.out
    obtain ⟨⟨c0, c1, c2, c3, c4, c5, c6⟩, f1, f2, f3, f4, f5, f6⟩ := J5.out.cells
    rw [hsn] at c3
  all_goals first
    | (have HSt : nextS S c body = ⟨S.hold, S.fol, some (c, body), S.lost⟩ := HSx.out
       clear HSt
       go_upto_region 17 with fail
       have J6 := J5; have T6 := T5
       have S6 := Lib.hid (S5.out.mono (T := [b]) (by simp))
       have Z6 := Lib.hid (show S.hold.size ≤ n from HHS.out)
       have HSy := HSx
       generalize S.hold = H6 at *
       generalize S.fol = F6 at *
       generalize S.lost = L6 at *
       obtain ⟨w6, hw6⟩ : ∃ w6, w6 = w5 := ⟨_, rfl⟩
       rw [← hw6] at J6 T6 S6 ⊢
       clear HSx hlw J5 T5 S5 hw6 p0 p1 p2 p3 p4 c0 c1 c2 c3 c4 c5 c6 f1 f2 f3 f4 f5 f6)
    | (have HSt : nextS S c body = ⟨⟨#[]⟩, false, some (c, body), S.lost + 1⟩ := HSx.out
       clear HSt
       have HL := Lib.hid (rlose_any J5.out)
       go_wp2_with fail
       (with_reducible refine HL.out.mono ?_)
       rintro e w5b ⟨rfl, j5, s5⟩
       have J5b := Lib.hid j5
       have S5b := Lib.hid ((S5.out.mono (T := [b]) (by simp)).trans s5 (fun x hx _ => hx))
       have T5b := Lib.hid (s5.heap T5.out (by simp; omega))
       clear p0 p1 p2 p3 p4 c0 c1 c2 c3 c4 c5 c6 f1 f2 f3 f4 f5 f6 HL
       obtain ⟨⟨c0, c1, c2, c3, c4, c5, c6⟩, f1, f2, f3, f4, f5, f6⟩ := j5.cells
       clear j5 s5
       go_upto_region 17 with fail
       obtain ⟨w6, hw6⟩ : ∃ w6, w6 = w5b.setCell ⟨b, 6, none⟩ (.int .i64 (S.lost + 1)) := ⟨_, rfl⟩
       rw [← hw6]
       obtain ⟨H6, hH6⟩ : ∃ H6 : ByteArray, H6 = ⟨#[]⟩ := ⟨_, rfl⟩
       obtain ⟨F6, hF6⟩ : ∃ F6 : Bool, F6 = false := ⟨_, rfl⟩
       obtain ⟨L6, hL6⟩ : ∃ L6 : Int, L6 = S.lost + 1 := ⟨_, rfl⟩
       have J6 := Lib.hid (show IsR w6 b pid H6 F6 sn sc sb L6 by rw [hH6, hF6, hL6, hw6]; exact J5b.out.set_lost _)
       have T6 := Lib.hid (show w6.heap[w.heap.size]? = some (.cells #[.int .i64 pid, .bool st, .int .i64 c, .bool false, .string body] 37 (0, 0)) by rw [hw6, set_other _ (by omega)]; exact T5b.out)
       have S6 := Lib.hid (show Same [b] w w6 by rw [hw6]; exact S5b.out.setCell (by simp) _)
       have Z6 := Lib.hid (show H6.size ≤ n by rw [hH6]; exact Nat.zero_le _)
       have HSy := Lib.hid (show nextS S c body = ⟨H6, F6, some (c, body), L6⟩ by rw [hH6, hF6, hL6]; exact HSx.out)
       clear hw6 hH6 hF6 hL6 HSx J5 T5 S5 J5b S5b T5b hlw c0 c1 c2 c3 c4 c5 c6 f1 f2 f3 f4 f5 f6)
  all_goals
    clear HHS C0
    obtain ⟨p0, p1, p2, p3, p4⟩ := rpkt_cells T6.out
    obtain ⟨⟨c0, c1, c2, c3, c4, c5, c6⟩, f1, f2, f3, f4, f5, f6⟩ := J6.out.cells
    rw [hsn] at c3
    have hj7 : IsR (((w6.setCell ⟨b, 3, none⟩ (.bool true)).setCell ⟨b, 4, none⟩ (.int .i64 c)).setCell ⟨b, 5, none⟩ (.string body)) b pid H6 F6 true c body L6 := ((J6.out.set_sn true).set_c c).set_bd body
    have hs7 : Same [b] w (((w6.setCell ⟨b, 3, none⟩ (.bool true)).setCell ⟨b, 4, none⟩ (.int .i64 c)).setCell ⟨b, 5, none⟩ (.string body)) := ((S6.out.setCell (by simp) _).setCell (by simp) _).setCell (by simp) _
    have ht7 : (((w6.setCell ⟨b, 3, none⟩ (.bool true)).setCell ⟨b, 4, none⟩ (.int .i64 c)).setCell ⟨b, 5, none⟩ (.string body)).heap[w.heap.size]? = some (.cells #[.int .i64 pid, .bool st, .int .i64 c, .bool false, .string body] 37 (0, 0)) := by
      rw [set_other _ (by omega), set_other _ (by omega), set_other _ (by omega)]; exact T6.out
    go_upto_region 20 with fail
    clear p0 p1 p2 p3 p4 c0 c1 c2 c3 c4 c5 c6 f1 f2 f3 f4 f5 f6
    generalize ((w6.setCell ⟨b, 3, none⟩ (.bool true)).setCell ⟨b, 4, none⟩ (.int .i64 c)).setCell ⟨b, 5, none⟩ (.string body) = w7 at *
    obtain ⟨p0, p1, p2, p3, p4⟩ := rpkt_cells ht7
    have J7 := Lib.hid hj7; have S7 := Lib.hid hs7
    clear hj7 hs7 ht7 T6 J6 S6
    have hb7 : b < w7.heap.size := heap_lt J7.out
    obtain ⟨⟨c0, c1, c2, c3, c4, c5, c6⟩, f1, f2, f3, f4, f5, f6⟩ := J7.out.cells
    have HOG := fun s => Lib.hid (onward_off H6 (some (c, body)) L6 s (nextE S c))
    have HON := fun s => Lib.hid (onward_on H6 (some (c, body)) L6 s (nextE S c))
    have HSM := Lib.hid (show ∀ p, some (c, body) = some p → c = p.1 ∧ body = p.2 from fun p hp => by cases hp; exact ⟨rfl, rfl⟩)
    have hHz : H6.size ≤ n := Z6.out
    cases st with
    | false =>
      cases F6 with
      | false =>
        have HB := Lib.hid (show bodyG (nextS S c body) (nextE S c) false body = ⟨⟨H6, false, some (c, body), L6⟩, [], nextE S c⟩ by rw [HSy.out]; exact (if_pos rfl).trans (HOG body).out)
        go_wp2_with fail
        go_ret2
        rw [HB.out, HEx.out]
        exact ⟨.slice none 0 0, rfl, ⟨World.ownsRow_nil _ _ _ _, fun k hk => (by cases hk)⟩, ⟨c, body, HSM.out, J7.out⟩, S7.out⟩
      | true =>
        have hbb : bodyG (nextS S c body) (nextE S c) false body = onwardG ⟨H6, true, some (c, body), L6⟩ body (nextE S c) := by rw [HSy.out]; exact if_pos rfl
        rw [(HON body).out] at hbb
        have ht := rtake_any body J7.out (by omega)
        generalize takeG (H6 ++ body).size (H6 ++ body) = t at *
        obtain ⟨tl, th, tlo, tok⟩ := t
        have HT := Lib.hid ht; have HB := Lib.hid hbb
        clear ht hbb
        go_wp2_with fail
        (with_reducible refine HT.out.mono ?_)
        rintro e w8 ⟨v, rfl, ho, j8, s8⟩
        have H8 := Lib.hid (show NewStrs w w8 v tl from ⟨ho.1, fun k hk => by have := ho.2 k hk; have := S7.out.size; omega⟩)
        have J8 := Lib.hid j8; have S8 := Lib.hid (S7.out.trans s8 (fun x hx _ => hx))
        clear ho j8 s8 HT S7 J7 p0 p1 p2 p3 p4 c0 c1 c2 c3 c4 c5 c6 f1 f2 f3 f4 f5 f6
        cases tok
        all_goals
          go_wp2_with fail
          go_ret2
          rw [HB.out, HEx.out]
          exact ⟨v, rfl, H8.out, ⟨c, body, HSM.out, J8.out⟩, S8.out⟩
    | true =>
      obtain ⟨R, hR⟩ : ∃ R, R = body.extract 1 body.size := ⟨_, rfl⟩
      obtain ⟨r, hr⟩ : ∃ r, r = byteOf body 0 := ⟨_, rfl⟩
      have hRz : R.size = body.size - 1 := by rw [hR]; exact size_extract body 1 body.size (by omega) (Nat.le_refl _)
      have hb0 := byteOf_at body 0 hpos0
      have hrl := byteOf_lt body 0
      rw [← hr] at hb0 hrl
      have hpi : (0 : Int) < (body.size : Int) := by omega
      have hpj : (1 : Int) ≤ (body.size : Int) := by omega
      have hR2 := hR.symm
      have HR := Lib.hid hR; have Hr := Lib.hid hr
      clear hR hr
      by_cases hgt : body.size - 1 < r
      · have hgi : (R.size : Int) < (r : Int) := by omega
        have HB := Lib.hid (show bodyG (nextS S c body) (nextE S c) true body = ⟨⟨⟨#[]⟩, false, some (c, body), L6⟩, [], 12⟩ by rw [HSy.out, bodyG, if_neg (by simp), ← Hr.out, if_pos hgt])
        have HL := Lib.hid (rlose_any J7.out)
        clear hRz hgt
        go_wp2_with fail
        (with_reducible refine HL.out.mono ?_)
        rintro e w9 ⟨rfl, j9, s9⟩
        have J9 := Lib.hid j9; have S9 := Lib.hid s9
        clear j9 s9 HL
        go_wp2_with fail
        go_ret2
        rw [HB.out]
        exact ⟨.slice none 0 0, rfl, ⟨World.ownsRow_nil _ _ _ _, fun k hk => (by cases hk)⟩, ⟨c, body, HSM.out, J9.out⟩, S7.out.trans S9.out (fun x hx _ => hx)⟩
      · have hgi : ¬ (R.size : Int) < (r : Int) := by omega
        have hgj : (r : Int) ≤ (R.size : Int) := by omega
        obtain ⟨R1, hR1⟩ : ∃ R1, R1 = R.extract 0 r := ⟨_, rfl⟩
        obtain ⟨R2, hR3⟩ : ∃ R2, R2 = R.extract r R.size := ⟨_, rfl⟩
        have hz1 : R1.size = r := by rw [hR1, size_extract _ _ _ (by omega) (by omega)]; omega
        have hz2 : R2.size = R.size - r := by rw [hR3, size_extract _ _ _ (by omega) (Nat.le_refl _)]
        have hbb : bodyG (nextS S c body) (nextE S c) true body = beginG (onwardG ⟨H6, F6, some (c, body), L6⟩ R1 (nextE S c)).st R2 (onwardG ⟨H6, F6, some (c, body), L6⟩ R1 (nextE S c)).outs (onwardG ⟨H6, F6, some (c, body), L6⟩ R1 (nextE S c)).err := by
          rw [HSy.out, bodyG, if_neg (by simp), ← Hr.out, if_neg hgt, ← HR.out, ← hR1, ← hR3]
        have hol := onward_len ⟨H6, F6, some (c, body), L6⟩ R1 (nextE S c)
        have hx1 := hR1.symm; have hx2 := hR3.symm
        have Z12 := Lib.hid (show R1.size ≤ 200 ∧ R2.size ≤ 200 from ⟨by omega, by omega⟩)
        have htk : ∀ F, IsR w7 b pid H6 F true c body L6 → Calls Try.prog 35 #[.pointer (some ⟨b, 0, none⟩), .string R1] w7 (RTakePost w7 b pid F true c body L6 (takeG (H6 ++ R1).size (H6 ++ R1))) := fun F hj => rtake_any R1 hj (by omega)
        clear hR1 hR3 hz1 hz2 hgt hRz
        have hF : F6 = false ∨ F6 = true := by cases F6 <;> simp
        rcases hF with hF | hF
        all_goals first
          | (have h0 : F6 = false := hF
             subst h0
             rw [(HOG R1).out] at hbb
             have HB := Lib.hid hbb
             clear hbb hol htk HOG HON hF
             go_wp2_with fail
             obtain ⟨qo, hqo⟩ : ∃ qo : List ByteArray, qo = [] := ⟨_, rfl⟩
             obtain ⟨qf, hqf⟩ : ∃ qf : Bool, qf = false := ⟨_, rfl⟩
             have HBX := Lib.hid (show bodyG (nextS S c body) (nextE S c) true body = beginG ⟨H6, qf, some (c, body), L6⟩ R2 qo (nextE S c) by rw [hqo, hqf]; exact HB.out)
             have HV := Lib.hid (show NewStrs w w7 (.slice none 0 0) qo by rw [hqo]; exact ⟨World.ownsRow_nil _ _ _ _, fun k hk => (by cases hk)⟩)
             have hqol : qo.length ≤ 1000000001000 := by rw [hqo]; exact Nat.zero_le _
             have J9 := J7; have S9 := S7
             obtain ⟨w9, hw9⟩ : ∃ w9, w9 = w7 := ⟨_, rfl⟩
             rw [← hw9] at J9 S9 HV hb7 ⊢
             clear HB hqo hqf hw9 J7 S7
             have j10 : IsR ((w9.setCell ⟨b, 1, none⟩ (.string ⟨#[]⟩)).setCell ⟨b, 2, none⟩ (.bool true)) b pid ⟨#[]⟩ true true c body L6 := (J9.out.set_hold _).set_fol _
             have s10 : Same [b] w9 ((w9.setCell ⟨b, 1, none⟩ (.string ⟨#[]⟩)).setCell ⟨b, 2, none⟩ (.bool true)) := ((Same.refl [b] w9).setCell (by simp) _).setCell (by simp) _
             clear c0 c1 c2 c3 c4 c5 c6 f1 f2 f3 f4 f5 f6
             generalize (w9.setCell ⟨b, 1, none⟩ (.string ⟨#[]⟩)).setCell ⟨b, 2, none⟩ (.bool true) = w10 at *
             have hzz : ((⟨#[]⟩ : ByteArray) ++ R2).size = R2.size := by rw [ByteArray.size_append]; show 0 + _ = _; omega
             have HZZ := Lib.hid hzz
             have htl := (takeG_len ((⟨#[]⟩ : ByteArray) ++ R2).size (⟨#[]⟩ ++ R2)).1
             have ht := rtake_any R2 j10 (by have := Z12.out; show 0 + _ < _; omega)
             rw [hzz] at ht htl
             clear hzz
             obtain ⟨t2, ht2⟩ : ∃ t2, t2 = takeG R2.size (⟨#[]⟩ ++ R2) := ⟨_, rfl⟩
             rw [← ht2] at ht htl
             have HT2 := Lib.hid ht2
             clear ht2
             obtain ⟨tl, th, tlo2, tok2⟩ := t2
             have hlen2 : tl.length ≤ 1000 := by have := Z12.out; have h3 : tl.length ≤ R2.size := htl; omega
             have HT := Lib.hid ht
             have S10 := Lib.hid (S9.out.trans s10 (fun x hx _ => hx))
             have HV0 := Lib.hid (own_same HV.out.1 s10 (fun x hx hm => by have := HV.out.2 x hx; simp at hm; omega))
             clear ht htl j10 s10
             (with_reducible refine HT.out.mono ?_)
             rintro e w11 ⟨v2, rfl, ho, j11, s11⟩
             have HV1 := Lib.hid (own_same HV0.out s11 (fun x hx hm => by have := HV.out.2 x hx; simp at hm; omega))
             have HV2 := Lib.hid ho.1
             have J11 := Lib.hid j11
             have S11 := Lib.hid (S10.out.trans s11 (fun x hx _ => hx))
             have hsz10 := S10.out.size
             have hsz11 := s11.size
             clear ho j11 s11 HT HV0
             cases tok2
             all_goals
               go_wp2_with (first
                 | (at_builtin; refine wpList_append_src rfl (.tmp 172) (.tmp 173) 33 rfl 0 9 i0 (.string ByteArray.empty) 1 16 Try.underlying33 hi hz0 hz1 hz2 rfl (by decide) (.slice none 0 0) qo.length (strVals qo) rfl HV1.out v2 tl.length (strVals tl) rfl (Reads.of_own HV2.out) (one_strs tl) (by unfold maxLen; omega) (by omega) (by simp) ?_; intro v3 w12 hown hgrow hat; have HOWN := Lib.hid hown; have HG := Lib.hid hgrow; have HAT := Lib.hid hat; clear hown hgrow hat)
                 | go_in)
               go_ret2
               rw [HBX.out, begin_eq _ _ _ _ HZZ.out, ← HT2.out]
               first
                 | rw [HEx.out]
                 | skip
               have hs12 := Same.of_grown HG.out
               refine ⟨v3, rfl, ⟨by have := HOWN.out; simpa [strVals] using this, fun x hx => ?_⟩, ⟨c, body, HSM.out, J11.out.same hs12 (fun hm => by have := HV.out.2 b (by simpa using hm); omega)⟩, S11.out.trans hs12 (fun x hx hlt => by have := HV.out.2 x (by simpa using hx); omega)⟩
               rcases HAT.out with e | e
               · rw [e] at hx; exact HV.out.2 x hx
               · rw [e] at hx; cases hx; omega)
          | (have h0 : F6 = true := hF
             subst h0
             have ht := htk true J7.out
             rw [(HON R1).out] at hbb hol
             have hlen : (takeG (H6 ++ R1).size (H6 ++ R1)).outs.length ≤ H6.size + R1.size := hol
             generalize takeG (H6 ++ R1).size (H6 ++ R1) = t at *
             obtain ⟨qo, qh, tlo, tok⟩ := t
             have HT := Lib.hid ht; have HB := Lib.hid hbb
             have hqol : qo.length ≤ 1000000001000 := by have := Z12.out; have h3 : qo.length ≤ H6.size + R1.size := hlen; omega
             clear ht hbb hol htk HOG HON hF hlen
             go_wp2_with fail
             (with_reducible refine HT.out.mono ?_)
             rintro e w9 ⟨v, rfl, ho, j9, s9⟩
             have HV := Lib.hid (show NewStrs w w9 v qo from ⟨ho.1, fun k hk => by have := ho.2 k hk; have := S7.out.size; omega⟩)
             have J9 := Lib.hid j9
             have S9 := Lib.hid (S7.out.trans s9 (fun x hx _ => hx))
             clear p0 p1 p2 p3 p4 c0 c1 c2 c3 c4 c5 c6 f1 f2 f3 f4 f5 f6
             have hb9 := heap_lt j9
             obtain ⟨⟨c0, c1, c2, c3, c4, c5, c6⟩, f1, f2, f3, f4, f5, f6⟩ := j9.cells
             clear ho j9 s9 HT
             cases tok
             all_goals
               go_wp2_with fail
               first
                 | (have HBX := Lib.hid (show bodyG (nextS S c body) (nextE S c) true body = beginG ⟨qh, !tlo && true, some (c, body), L6⟩ R2 qo (nextE S c) from HB.out)
                    clear HB
                    have j10 : IsR ((w9.setCell ⟨b, 1, none⟩ (.string ⟨#[]⟩)).setCell ⟨b, 2, none⟩ (.bool true)) b pid ⟨#[]⟩ true true c body L6 := (J9.out.set_hold _).set_fol _
                    have s10 : Same [b] w9 ((w9.setCell ⟨b, 1, none⟩ (.string ⟨#[]⟩)).setCell ⟨b, 2, none⟩ (.bool true)) := ((Same.refl [b] w9).setCell (by simp) _).setCell (by simp) _
                    clear c0 c1 c2 c3 c4 c5 c6 f1 f2 f3 f4 f5 f6
                    generalize (w9.setCell ⟨b, 1, none⟩ (.string ⟨#[]⟩)).setCell ⟨b, 2, none⟩ (.bool true) = w10 at *
                    have hzz : ((⟨#[]⟩ : ByteArray) ++ R2).size = R2.size := by rw [ByteArray.size_append]; show 0 + _ = _; omega
                    have HZZ := Lib.hid hzz
                    have htl := (takeG_len ((⟨#[]⟩ : ByteArray) ++ R2).size (⟨#[]⟩ ++ R2)).1
                    have ht := rtake_any R2 j10 (by have := Z12.out; show 0 + _ < _; omega)
                    rw [hzz] at ht htl
                    clear hzz
                    obtain ⟨t2, ht2⟩ : ∃ t2, t2 = takeG R2.size (⟨#[]⟩ ++ R2) := ⟨_, rfl⟩
                    rw [← ht2] at ht htl
                    have HT2 := Lib.hid ht2
                    clear ht2
                    obtain ⟨tl, th, tlo2, tok2⟩ := t2
                    have hlen2 : tl.length ≤ 1000 := by have := Z12.out; have h3 : tl.length ≤ R2.size := htl; omega
                    have HT := Lib.hid ht
                    have S10 := Lib.hid (S9.out.trans s10 (fun x hx _ => hx))
                    have HV0 := Lib.hid (own_same HV.out.1 s10 (fun x hx hm => by have := HV.out.2 x hx; simp at hm; omega))
                    clear ht htl j10 s10
                    (with_reducible refine HT.out.mono ?_)
                    rintro e w11 ⟨v2, rfl, ho, j11, s11⟩
                    have HV1 := Lib.hid (own_same HV0.out s11 (fun x hx hm => by have := HV.out.2 x hx; simp at hm; omega))
                    have HV2 := Lib.hid ho.1
                    have J11 := Lib.hid j11
                    have S11 := Lib.hid (S10.out.trans s11 (fun x hx _ => hx))
                    have hsz10 := S10.out.size
                    have hsz11 := s11.size
                    clear ho j11 s11 HT HV0
                    cases tok2
                    all_goals
                      go_wp2_with (first
                        | (at_builtin; refine wpList_append_src rfl (.tmp 172) (.tmp 173) 33 rfl 0 9 i0 (.string ByteArray.empty) 1 16 Try.underlying33 hi hz0 hz1 hz2 rfl (by decide) v qo.length (strVals qo) rfl HV1.out v2 tl.length (strVals tl) rfl (Reads.of_own HV2.out) (one_strs tl) (by unfold maxLen; omega) (by omega) (by simp) ?_; intro v3 w12 hown hgrow hat; have HOWN := Lib.hid hown; have HG := Lib.hid hgrow; have HAT := Lib.hid hat; clear hown hgrow hat)
                        | go_in)
                      go_ret2
                      rw [HBX.out, begin_eq _ _ _ _ HZZ.out, ← HT2.out]
                      first
                        | rw [HEx.out]
                        | skip
                      have hs12 := Same.of_grown HG.out
                      refine ⟨v3, rfl, ⟨by have := HOWN.out; simpa [strVals] using this, fun x hx => ?_⟩, ⟨c, body, HSM.out, J11.out.same hs12 (fun hm => by have := HV.out.2 b (by simpa using hm); omega)⟩, S11.out.trans hs12 (fun x hx hlt => by have := HV.out.2 x (by simpa using hx); omega)⟩
                      rcases HAT.out with e | e
                      · rw [e] at hx; exact HV.out.2 x hx
                      · rw [e] at hx; cases hx; omega)
                 | (have HBX := Lib.hid (show bodyG (nextS S c body) (nextE S c) true body = beginG ⟨qh, !tlo && true, some (c, body), L6⟩ R2 qo 12 from HB.out)
                    clear HB
                    have j10 : IsR ((w9.setCell ⟨b, 1, none⟩ (.string ⟨#[]⟩)).setCell ⟨b, 2, none⟩ (.bool true)) b pid ⟨#[]⟩ true true c body L6 := (J9.out.set_hold _).set_fol _
                    have s10 : Same [b] w9 ((w9.setCell ⟨b, 1, none⟩ (.string ⟨#[]⟩)).setCell ⟨b, 2, none⟩ (.bool true)) := ((Same.refl [b] w9).setCell (by simp) _).setCell (by simp) _
                    clear c0 c1 c2 c3 c4 c5 c6 f1 f2 f3 f4 f5 f6
                    generalize (w9.setCell ⟨b, 1, none⟩ (.string ⟨#[]⟩)).setCell ⟨b, 2, none⟩ (.bool true) = w10 at *
                    have hzz : ((⟨#[]⟩ : ByteArray) ++ R2).size = R2.size := by rw [ByteArray.size_append]; show 0 + _ = _; omega
                    have HZZ := Lib.hid hzz
                    have htl := (takeG_len ((⟨#[]⟩ : ByteArray) ++ R2).size (⟨#[]⟩ ++ R2)).1
                    have ht := rtake_any R2 j10 (by have := Z12.out; show 0 + _ < _; omega)
                    rw [hzz] at ht htl
                    clear hzz
                    obtain ⟨t2, ht2⟩ : ∃ t2, t2 = takeG R2.size (⟨#[]⟩ ++ R2) := ⟨_, rfl⟩
                    rw [← ht2] at ht htl
                    have HT2 := Lib.hid ht2
                    clear ht2
                    obtain ⟨tl, th, tlo2, tok2⟩ := t2
                    have hlen2 : tl.length ≤ 1000 := by have := Z12.out; have h3 : tl.length ≤ R2.size := htl; omega
                    have HT := Lib.hid ht
                    have S10 := Lib.hid (S9.out.trans s10 (fun x hx _ => hx))
                    have HV0 := Lib.hid (own_same HV.out.1 s10 (fun x hx hm => by have := HV.out.2 x hx; simp at hm; omega))
                    clear ht htl j10 s10
                    (with_reducible refine HT.out.mono ?_)
                    rintro e w11 ⟨v2, rfl, ho, j11, s11⟩
                    have HV1 := Lib.hid (own_same HV0.out s11 (fun x hx hm => by have := HV.out.2 x hx; simp at hm; omega))
                    have HV2 := Lib.hid ho.1
                    have J11 := Lib.hid j11
                    have S11 := Lib.hid (S10.out.trans s11 (fun x hx _ => hx))
                    have hsz10 := S10.out.size
                    have hsz11 := s11.size
                    clear ho j11 s11 HT HV0
                    cases tok2
                    all_goals
                      go_wp2_with (first
                        | (at_builtin; refine wpList_append_src rfl (.tmp 172) (.tmp 173) 33 rfl 0 9 i0 (.string ByteArray.empty) 1 16 Try.underlying33 hi hz0 hz1 hz2 rfl (by decide) v qo.length (strVals qo) rfl HV1.out v2 tl.length (strVals tl) rfl (Reads.of_own HV2.out) (one_strs tl) (by unfold maxLen; omega) (by omega) (by simp) ?_; intro v3 w12 hown hgrow hat; have HOWN := Lib.hid hown; have HG := Lib.hid hgrow; have HAT := Lib.hid hat; clear hown hgrow hat)
                        | go_in)
                      go_ret2
                      rw [HBX.out, begin_eq _ _ _ _ HZZ.out, ← HT2.out]
                      first
                        | rw [HEx.out]
                        | skip
                      have hs12 := Same.of_grown HG.out
                      refine ⟨v3, rfl, ⟨by have := HOWN.out; simpa [strVals] using this, fun x hx => ?_⟩, ⟨c, body, HSM.out, J11.out.same hs12 (fun hm => by have := HV.out.2 b (by simpa using hm); omega)⟩, S11.out.trans hs12 (fun x hx hlt => by have := HV.out.2 x (by simpa using hx); omega)⟩
                      rcases HAT.out with e | e
                      · rw [e] at hx; exact HV.out.2 x hx
                      · rw [e] at hx; cases hx; omega))

end Go.Proofs.Ytpnbhgmcfooppaa
