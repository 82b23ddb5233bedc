/- The walk of the law PackerWhole: whatever bodies and count, it answers true. No condition. -/
import Derived.Test.YtpnbhgmcfooppaaPq8
import Derived.Test.YtpnbhgmcfooppaaPackerSum
namespace Go.Proofs.Ytpnbhgmcfooppaa
open Go.RowKit
set_option linter.unusedSimpArgs false
set_option linter.unusedVariables false

/-- Where sections begin. -/
def begL (a : Nat) : List ByteArray → List Nat
  | [] => []
  | x :: l => a :: begL (a + x.size) l
theorem begL_snoc : ∀ (a : Nat) (l : List ByteArray) (x : ByteArray), begL a (l ++ [x]) = begL a l ++ [a + (catL l).size]
  | a, [], x => rfl
  | a, y :: l, x => by
    rw [List.cons_append, begL, begL_snoc, begL, List.cons_append, catL, ByteArray.size_append, Nat.add_assoc]
theorem begL_length : ∀ (a : Nat) (l : List ByteArray), (begL a l).length = l.length
  | a, [] => rfl
  | a, y :: l => by rw [begL, List.length_cons, begL_length, List.length_cons]
theorem begL_get : ∀ (a : Nat) (l : List ByteArray) (j : Nat), j < l.length → (begL a l)[j]? = some (a + (catL (l.take j)).size)
  | a, [], j, h => absurd h (Nat.not_lt_zero _)
  | a, y :: l, 0, _ => rfl
  | a, y :: l, j + 1, h => by
    rw [begL, List.getElem?_cons_succ, begL_get (a + y.size) l j (by rw [List.length_cons] at h; omega), List.take_succ_cons, catL, ByteArray.size_append, Nat.add_assoc]
def intVals (l : List Nat) : List Value := l.map fun (n : Nat) => Value.int .i64 (n : Int)
theorem Try.infoI : (Try.prog.info? 3).map (fun i => (i.zero, i.size, i.bytes)) = some (some (.int .i64 0), 1, 8) := by kernel_rfl

set_option maxRecDepth 100000 in
theorem whole_out (bodies : List ByteArray) (v : Value) (count : Int) (w : World) (hr : StrsAt w v bodies) (h : 20 < bodies.length ∨ count < 0 ∨ 15 < count) :
    Calls Try.prog 7 #[v, .int .i64 count] w (AwakePost w) := by
  obtain ⟨ad, c, rfl, _, _, _⟩ := hr
  have hcs : (20 : Int) < (bodies.length : Int) ∨ (¬ (20 : Int) < (bodies.length : Int) ∧ count < 0) ∨ (¬ (20 : Int) < (bodies.length : Int) ∧ ¬ count < 0 ∧ (15 : Int) < count) := by omega
  clear h
  rcases hcs with h | ⟨h, h1⟩ | ⟨h, h1, h2⟩
  all_goals
    go_enter Try.func7, Try.ntmps7
    go_wp2_with (go_at_call 21; (with_reducible refine (awake15 _).mono ?_); rintro e w' ⟨rfl, hs⟩; have HS2 := Lib.hid hs; clear hs)
    go_ret
    exact ⟨rfl, HS2.out⟩

/-- What the first loop has laid: the sections, all their bytes, where they begin. -/
structure Laid (w0 wr : World) (n : Nat) (Lp : List ByteArray) (s6 s7 : Value) : Prop where
  len : Lp.length = n
  good : ∀ x ∈ Lp, Good x
  size : (catL Lp).size ≤ 4096 * n
  own6 : wr.ownsRow 0 9 1 s6 Lp.length (strVals Lp)
  own7 : wr.ownsRow 0 3 1 s7 (begL 0 Lp).length (intVals (begL 0 Lp))
  fr6 : ∀ q, s6.ownBlock = some q → w0.heap.size ≤ q
  fr7 : ∀ q, s7.ownBlock = some q → w0.heap.size ≤ q
  apart : ∀ q, s6.ownBlock = some q → s7.ownBlock ≠ some q
  same : Same [] w0 wr

set_option maxRecDepth 100000 in
set_option maxHeartbeats 8000000 in
theorem whole_ok (bodies : List ByteArray) (v : Value) (count : Int) (w : World) (hr : StrsAt w v bodies) (hb20 : bodies.length ≤ 20) (h0 : 0 ≤ count) (h1 : count ≤ 15) :
    Calls Try.prog 7 #[v, .int .i64 count] w (AwakePost w) := by
  obtain ⟨i0, hi, hz0, hz1, hz2⟩ := info_parts Try.infoS
  obtain ⟨j0, hj, hy0, hy1, hy2⟩ := info_parts Try.infoI
  obtain ⟨ad, c, rfl, hc1, hc2, hc3⟩ := hr
  have HC := Lib.hid hc3
  clear hc3
  have g1 : ¬ (20 : Int) < (bodies.length : Int) := by omega
  have g2 : ¬ count < 0 := by omega
  have g3 : ¬ (15 : Int) < count := by omega
  go_enter Try.func7, Try.ntmps7
  go_wp2_with fail
  obtain ⟨w0, rfl⟩ : ∃ w0 : World, w0 = w := ⟨_, rfl⟩
  go_loopw [5, 6, 7, 8] (fun s5 s6 s7 s8 wr => ∃ pre ls Lp : List ByteArray, bodies = pre ++ ls ∧ s8 = .int .i64 pre.length ∧ s5 = .string (catL Lp) ∧ Laid w0 wr pre.length Lp s6 s7) (fun _ _ _ s8 _ => bodies.length - (intOf s8).toNat)
  case atStart => exact ⟨[], bodies, [], rfl, rfl, rfl, ⟨rfl, (fun x hx => nomatch hx), Nat.le_refl _, World.ownsRow_nil _ _ _ _, World.ownsRow_nil _ _ _ _, fun b hb => (by cases hb), fun b hb => (by cases hb), fun b hb => (by cases hb), Same.refl _ _⟩⟩
  case round =>
    obtain ⟨pre, ls, Lp, hL, rfl, rfl, hld⟩ := hrel
    have HLD := Lib.hid hld
    have hpl : pre.length ≤ bodies.length := by rw [hL]; simp
    cases ls with
    | cons x ls =>
      have hlen : pre.length < bodies.length := by rw [hL]; simp
      have hlt : (pre.length : Int) < (bodies.length : Int) := by omega
      obtain ⟨g, o, rfl, hx0⟩ := suffix_cell HC.out hL
      have hx := hld.same.cell hx0 (by simp)
      have HL := Lib.hid hL; have HX0 := Lib.hid hx0
      have hlp := hld.len; have hszl := hld.size
      have hcat : (catL Lp).size < 1000000 := by omega
      clear hL hx0 hld hlp hszl
      by_cases hxz : 1400 < x.size
      · have hxz' : (1400 : Int) < (x.size : Int) := by omega
        go_wp2_with (go_at_call 21; (with_reducible refine (awake15 _).mono ?_); rintro e w' ⟨rfl, hs⟩; have HA9 := Lib.hid hs; clear hs)
        go_ret
        exact ⟨rfl, HLD.out.same.trans_nil HA9.out⟩
      · have hxz' : ¬ (1400 : Int) < (x.size : Int) := by omega
        have hm := fun W => made_fn x W (by omega)
        have hgm := good_madeC x (by omega)
        have hmz := hgm.size
        generalize madeC x = X at *
        have HM := Lib.hid hm; have HGM := Lib.hid hgm
        obtain ⟨len, good, size, own6, own7, fr6, fr7, apart, same⟩ := HLD.out
        have hbl := begL_length 0 Lp
        have hl16 : (Lp.length + 1) * 16 ≤ 140737488355328 := by omega
        have hl63 : Lp.length + 1 ≤ maxLen := by unfold maxLen; omega
        have hb8 : ((begL 0 Lp).length + 1) * 8 ≤ 140737488355328 := by omega
        have hb63 : (begL 0 Lp).length + 1 ≤ maxLen := by unfold maxLen; omega
        have HO6 := Lib.hid own6; have HO7 := Lib.hid own7; have HF6 := Lib.hid fr6; have HF7 := Lib.hid fr7; have HAP := Lib.hid apart; have HS := Lib.hid same
        have HLN := Lib.hid len; have HGD := Lib.hid good; have HSZ := Lib.hid size
        clear hm hgm len good size own6 own7 fr6 fr7 apart same hbl
        go_upto_region 11 with fail
        go_cut [7] (fun s7 wx => wx.ownsRow 0 3 1 s7 (begL 0 (Lp ++ [X])).length (intVals (begL 0 (Lp ++ [X]))) ∧ (∀ q, s7.ownBlock = some q → w0.heap.size ≤ q) ∧ (∀ q, u6.ownBlock = some q → s7.ownBlock ≠ some q) ∧ wx.ownsRow 0 9 1 u6 Lp.length (strVals Lp) ∧ Same [] w0 wx)
        case first =>
          go_wp2_with (first | (at_builtin; refine wpList_append_src rfl (.tmp 46) (.tmp 49) 43 rfl 0 3 j0 _ 1 8 Try.underlying43 hj hy0 hy1 hy2 rfl (by decide) _ (begL 0 Lp).length (intVals (begL 0 Lp)) rfl (by exact HO7.out.alloc _) _ 1 [.int .i64 ((catL Lp).size : Int)] rfl (by exact Reads.of_own (row_new wr #[.int .i64 ((catL Lp).size : Int)] 3 1 rfl (by decide))) (by intro u hu; simp at hu; subst hu; rfl) hb63 hb8 (Nat.zero_le _) ?_; intro v' w4 hown hgrow hat; have HOWN := Lib.hid hown; have HGR := Lib.hid hgrow; have HAT := Lib.hid hat; clear hown hgrow hat) | fail)
          go_meet
          have hgr : (wr.alloc (.cells #[.int .i64 ((catL Lp).size : Int)] 3)).grownBy w4 u7.ownBlock := HGR.out
          have hat : v'.ownBlock = u7.ownBlock ∨ v'.ownBlock = some (wr.alloc (.cells #[.int .i64 ((catL Lp).size : Int)] 3)).heap.size := HAT.out
          have hlt6 := own_lt HO6.out
          refine ⟨?_, fr_next hat HF7.out (HS.out.alloc _), fun q hq6 hq7 => ?_, own_same (HO6.out.alloc _) (Same.of_grown hgr) (fun q hq hm => HAP.out q hq (by simpa using hm)), sm_next hgr HF7.out (HS.out.alloc _)⟩
          · rw [begL_snoc, List.length_append]
            have := HOWN.out
            simpa [intVals] using this
          · rcases hat with h | h
            · exact HAP.out q hq6 (h ▸ hq7)
            · rw [h, World.size_alloc] at hq7
              have := hlt6 q hq6
              cases hq7
              omega
        obtain ⟨o7, f7, ap7, o6, s7⟩ := hcut
        have HO7' := Lib.hid o7; have HF7' := Lib.hid f7; have HAP' := Lib.hid ap7; have HO6' := Lib.hid o6; have HS' := Lib.hid s7
        clear o7 f7 ap7 o6 s7 HO6 HO7 HF7 HAP HS HLD hx
        have hx := HS'.out.cell HX0.out (by simp)
        go_wp2_with fail
        (with_reducible refine (HM.out _).mono ?_)
        rintro e w4 ⟨rfl, s4⟩
        have S4 := Lib.hid (HS'.out.trans_nil s4); have HO64 := Lib.hid (own_same HO6'.out s4 (fun _ _ => by simp)); have HO74 := Lib.hid (own_same HO7'.out s4 (fun _ _ => by simp))
        clear s4 HO6' HO7' HS' hx
        go_upto_region 13 with (first | (at_builtin; refine wpList_append_src rfl (.tmp 51) (.tmp 57) 33 rfl 0 9 i0 _ 1 16 Try.underlying33 hi hz0 hz1 hz2 rfl (by decide) _ Lp.length (strVals Lp) rfl (by exact HO64.out.alloc _) _ 1 [.string X] rfl (by exact Reads.of_own (row_new w4 #[.string X] 9 1 rfl (by decide))) (by intro u hu; simp at hu; subst hu; rfl) hl63 hl16 (Nat.zero_le _) ?_; intro v' w5 hown hgrow hat; have HOWN := Lib.hid hown; have HGR := Lib.hid hgrow; have HAT := Lib.hid hat; clear hown hgrow hat) | fail)
        have own6 : w5.ownsRow 0 9 1 v' (Lp ++ [X]).length (strVals (Lp ++ [X])) := by
          have := HOWN.out
          rw [List.length_append]
          simpa [strVals] using this
        have hlt7 := own_lt HO74.out
        have hgr : (w4.alloc (.cells #[.string X] 9)).grownBy w5 u6.ownBlock := HGR.out
        have hat : v'.ownBlock = u6.ownBlock ∨ v'.ownBlock = some (w4.alloc (.cells #[.string X] 9)).heap.size := HAT.out
        have hld2 : Laid w0 w5 (pre ++ [x]).length (Lp ++ [X]) v' u7 := by
          refine ⟨by rw [List.length_append, List.length_append, HLN.out]; rfl, fun y hy => ?_, ?_, own6, own_same (HO74.out.alloc _) (Same.of_grown hgr) (fun q hq hm => HAP'.out q (by simpa using hm) hq), fr_next hat HF6.out (S4.out.alloc _), HF7'.out, fun q hq6 hq7 => ?_, sm_next hgr HF6.out (S4.out.alloc _)⟩
          · rcases List.mem_append.1 hy with h | h
            · exact HGD.out y h
            · rw [List.mem_singleton.1 h]; exact HGM.out
          · rw [catL_append, catL_one, ByteArray.size_append, List.length_append]
            have := HSZ.out; simp only [List.length_cons, List.length_nil]; omega
          · rcases hat with h | h
            · exact HAP'.out q (h ▸ hq6) hq7
            · rw [h, World.size_alloc] at hq6
              have := hlt7 q hq7
              cases hq6
              omega
        have HLD2 := Lib.hid hld2
        obtain ⟨ad6, c6, rfl, q1, q2, q3⟩ := own_slice own6
        obtain ⟨g6, rfl, hc6⟩ := q3 pre.length (by rw [List.length_append, HLN.out]; simp)
        have hx6 := hc6 pre.length (.string X) (by rw [← HLN.out]; simp [strVals])
        have hidx : (pre.length : Int) < (Lp.length : Int) + 1 := by rw [HLN.out]; omega
        have hidn : pre.length < Lp.length + 1 := by rw [HLN.out]; omega
        have hll : (Lp ++ [X]).length = Lp.length + 1 := by simp
        have HCX := Lib.hid (show catL Lp ++ X = catL (Lp ++ [X]) by rw [catL_append, catL_one])
        clear own6 hld2 q3 hc6 hgr hat HO64 HO74 S4
        go_wp2_with fail
        go_roundw
        case rel => exact ⟨pre ++ [x], ls, Lp ++ [X], by rw [HL.out]; simp, by simp, by rw [← HCX.out], by first | exact HLD2.out | (have h9 := HLD2.out; rw [hll] at h9; exact h9)⟩
        case measure => simp [intOf]; omega
    | nil =>
      have hL2 : bodies = pre := by rw [hL]; simp
      subst hL2
      have hlt : ¬ (bodies.length : Int) < (bodies.length : Int) := by omega
      have hszl := hld.size
      have hpk := fun W (h : StrsAt W u6 Lp) => pack_ok 9 count Lp u6 W (by decide) (by decide) h0 h1 h hld.good (by omega)
      have hpz := pack_len (catL Lp).size ⟨#[]⟩ Lp
      rw [nil_append] at hpz
      have hfirst : packG (catL Lp).size ⟨#[]⟩ Lp = packG (catL Lp).size ⟨#[]⟩ Lp := rfl
      generalize hPKe : packG (catL Lp).size ⟨#[]⟩ Lp = PK at hpk hpz
      have hpn : PK.length ≤ 90000 := by omega
      have HL20 := Lib.hid (show Lp.length ≤ 20 by rw [hld.len]; exact hb20)
      have HALL := Lib.hid (show (catL Lp).size ≤ 90000 by omega)
      have HPKE := Lib.hid hPKe; have HPK := Lib.hid hpk
      clear hL hld hszl hpk hpz hfirst hPKe
      go_wp2_with fail
      (with_reducible refine (HPK.out _ (strs_of_own HLD.out.own6)).mono ?_)
      rintro e w1 ⟨v2, rfl, o2, fr2, s1⟩
      obtain ⟨ad2, c2, rfl, p1, p2, p3⟩ := row_pack o2
      have hrem : (count + (PK.length : Int)).tmod 16 = (count + (PK.length : Int)) % 16 := Int.tmod_eq_emod_of_nonneg (by omega)
      have hee : ((count + (PK.length : Int)) % 16 != (count + (PK.length : Int)) % 16) = false := by simp
      have HP3 := Lib.hid p3
      have HO7 := Lib.hid (own_same HLD.out.own7 s1 (fun _ _ => by simp))
      have HGD := Lib.hid HLD.out.good
      have HS := Lib.hid (HLD.out.same.trans_nil s1)
      have HFR := Lib.hid HLD.out.fr7
      clear o2 fr2 s1 p3 HPK HLD
      go_wp2_with fail
      have hmid := WMid.start HGD.out
      rw [HPKE.out] at hmid
      have HMID := Lib.hid hmid
      clear hmid
      obtain ⟨ad7, c7, rfl, q1, q2, q3⟩ := own_slice HO7.out
      rw [begL_length] at q1 q3
      have hbl7 := begL_length 0 Lp
      generalize (begL 0 Lp).length = nb7 at hbl7 ⊢
      subst hbl7
      have Q3 := Lib.hid q3
      clear q3 HO7
      go_loopw [12, 13, 14, 15, 16, 17, 18, 19, 20] (fun s12 s13 s14 s15 s16 s17 s18 s19 s20 wv => ∃ (done : List (Bool × ByteArray)) (k : Nat) (t : ByteArray) (l : List ByteArray) (a b : Nat), WMid PK done Lp k t l a b ∧ s12 = .int .i64 a ∧ s13 = .int .i64 b ∧ s14 = .int .i64 done.length ∧ Same [] w1 wv) (fun _ _ s14 _ _ _ _ _ _ _ => PK.length - (intOf s14).toNat)
      case atStart => exact ⟨[], _, _, Lp, 0, 0, HMID.out, rfl, rfl, rfl, Same.refl _ _⟩
      case round =>
        obtain ⟨done, k, t, l, a, b, hmid, rfl, rfl, rfl, hs⟩ := hrel
        have hdl : done.length ≤ PK.length := by rw [hmid.pk]; simp
        have HM := Lib.hid hmid; have HS1 := Lib.hid hs
        clear hs HMID
        cases hq : packG k t l with
        | nil =>
          have e1 := hmid.done hq
          have hP := hmid.pk
          rw [hq, List.append_nil] at hP
          have hlt : ¬ (done.length : Int) < (PK.length : Int) := by rw [hP]; omega
          have hat : (a : Int) = ((catL Lp).size : Int) := by omega
          clear hq hmid hP e1 HM
          go_wp2_with (first | (go_at_call 21; (with_reducible refine (awake15 _).mono ?_); rintro e w' ⟨rfl, hs⟩; have HA9 := Lib.hid hs; clear hs))
          go_ret
          refine ⟨by first | rfl | simp [hat], (HS.out.trans_nil HS1.out).trans_nil HA9.out⟩
        | cons p rest =>
          have hP := hmid.pk
          rw [hq] at hP
          have hlen : done.length < PK.length := by rw [hP]; simp
          have hlt : (done.length : Int) < (PK.length : Int) := by omega
          obtain ⟨g, rfl, hc⟩ := HP3.out done p rest hP
          obtain ⟨x0, x1, x2, x3, x4⟩ := hc.same HS1.out (by simp)
          obtain ⟨k', t', l', body, kk, c, ws, hmid', n1, n2, n3, n4, n5, n6, n7, n8, n9⟩ := hmid.next hq
          obtain ⟨st, pbody⟩ := p
          (try simp only at x0 x1 x2 x3 x4)
          obtain ⟨z1, z2⟩ := ws.size
          (try simp only at z1 z2)
          have hct : (count + (done.length : Int)).tmod 16 = (count + (done.length : Int)) % 16 := Int.tmod_eq_emod_of_nonneg (by omega)
          have hcc : ((count + (done.length : Int)) % 16 != (count + (done.length : Int)) % 16) = false := by simp
          have z3 : ¬ (184 : Int) < (pbody.size : Int) := by omega
          have z4 : ¬ (pbody.size : Int) < (183 : Int) := by omega
          have hat : ¬ ((catL Lp).size : Int) ≤ (a : Int) := by omega
          have hmin : min (body.size : Int) (((catL Lp).size : Int) - (a : Int)) = (kk : Int) := by omega
          have hkb : kk ≤ body.size := by omega
          have hbk : body.size ≤ 184 := by
            cases st with
            | true => have h9 : pbody = strOfNums [(t.size : Int)] ++ body := (ws.start rfl).1; have h8 := congrArg ByteArray.size h9; rw [ByteArray.size_append, snums] at h8; simp only [List.length_cons, List.length_nil] at h8; omega
            | false => have h9 : pbody = body := (ws.rest rfl).1; rw [← h9]; omega
          have hmax : (catL Lp).size ≤ 90000 := HALL.out
          have hne2 : ((body.extract 0 kk).toList != ((catL Lp).extract a (a + kk)).toList) = false := by rw [n5]; simp
          have hlp : 0 < Lp.length := by
            rcases Nat.eq_zero_or_pos Lp.length with h | h
            · rw [List.length_eq_zero_iff.1 h] at n4; exact absurd n4 (Nat.not_lt_zero _)
            · exact h
          obtain ⟨g7, rfl, _⟩ := Q3.out 0 hlp
          have hcells : ∀ j, j < Lp.length → wr.cell? ⟨g7, j, none⟩ = some (.int .i64 (((catL (Lp.take j)).size : Nat) : Int)) := by
            intro j hj
            obtain ⟨g8, e8, hc7⟩ := Q3.out j hj
            cases e8
            refine HS1.out.cell (hc7 j _ ?_) (by simp)
            unfold intVals
            rw [List.getElem?_map, begL_get 0 Lp j hj, Nat.zero_add]; rfl
          have N5 := Lib.hid n5
          have HWS := Lib.hid ws; have HM' := Lib.hid hmid'
          have HN := Lib.hid (And.intro n6 (And.intro n7 (And.intro n8 n9)))
          have b0 := byteOf_at pbody 0 (by omega)
          clear hq hmid hP HM hc
          go_upto_region 25 with fail
          go_cut [15, 16] (fun s15 s16 wx => s16 = .string pbody ∧ ∃ gp, s15 = .pointer (some ⟨gp, 0, none⟩) ∧ wx.cell? ⟨gp, 1, none⟩ = some (.bool st) ∧ wx.cell? ⟨gp, 4, none⟩ = some (.string pbody) ∧ Same [] wr wx)
          case first =>
            go_wp2_with fail
            go_meet
            refine ⟨rfl, _, rfl, ?_, ?_, (Same.refl _ _).alloc _⟩
            · exact (World.cell?_alloc_mark _ _ _ _ 1).trans rfl
            · exact (World.cell?_alloc_mark _ _ _ _ 4).trans rfl
          obtain ⟨rfl, gp, rfl, w1', w4', sx⟩ := hcut
          have hcl2 : ∀ j, j < Lp.length → wc.cell? ⟨g7, j, none⟩ = some (.int .i64 (((catL (Lp.take j)).size : Nat) : Int)) := fun j hj => sx.cell (hcells j hj) (by simp)
          have HS2 := Lib.hid (HS1.out.trans_nil sx)
          have HCS := Lib.hid hcl2
          clear x0 x1 x2 x3 x4 hcells sx HS1
          have HBC := Lib.hid n2
          have hbp : b + c ≤ 1000 := by have := n2; have := HL20.out; omega
          have hak : a + kk ≤ 90000 := by omega
          clear hmid' n1 n2 n3 n4 n5 n6 n7 n8 hcl2
          cases st
          case' true =>
            obtain ⟨y1, y2, y3⟩ := ws.start rfl
            replace y1 : pbody = strOfNums [(t.size : Int)] ++ body := y1
            have hp0 : byteOf pbody 0 = t.size := by rw [y1]; exact byteOf_num _ (by omega) _
            rw [hp0] at b0
            have hpx : pbody.extract 1 pbody.size = body := by rw [y1]; exact behind_num _ _
            have hp1 : 0 < pbody.size := by omega
            have hbl : b < Lp.length := by have := HBC.out; omega
            have hbl2 : ¬ (Lp.length : Int) ≤ (b : Int) := by omega
            have hx7 := HCS.out b hbl
            rw [n9 hbl] at hx7
            have hxc : (((a + t.size : Nat) : Int) != (a : Int) + (t.size : Int)) = false := by simp
            have ht : ¬ (182 : Int) < (t.size : Int) := by omega
            have hgt : (b : Int) < (b : Int) + (c : Int) := by omega
            clear ws n9 y1
            go_upto_region 32 with fail
            go_cut [166] (fun s166 wy => s166 = .bool false ∧ Same [] wc wy)
            case first =>
              go_quiet (fail)
              go_wp2_with fail
              go_meet
              exact ⟨by rw [N5.out, beq_self_eq_true]; rfl, Same.drewN _ _⟩
          case' false =>
            obtain ⟨y1, y2⟩ := ws.rest rfl
            replace y1 : pbody = body := y1
            have y9 := y1.symm
            clear y1
            subst y9
            have hgt : ¬ (b : Int) < (b : Int) + (c : Int) := by omega
            clear ws n9 y2
            go_upto_region 32 with fail
            go_cut [166] (fun s166 wy => s166 = .bool false ∧ Same [] wc wy)
            case first =>
              go_quiet (fail)
              go_wp2_with fail
              go_meet
              exact ⟨by rw [N5.out, beq_self_eq_true]; rfl, Same.drewN _ _⟩
          all_goals (obtain ⟨rfl, sy⟩ := hcut)
          all_goals (have w5' := sy.cell w1' (by simp))
          all_goals (have HCS2 := Lib.hid (fun j (hj : j < Lp.length) => sy.cell (HCS.out j hj) (by simp)))
          all_goals (have HS3 := Lib.hid (HS2.out.trans_nil sy))
          all_goals (clear w1' w4' sy hmin hne2)
          all_goals (go_wp2_with fail)
          all_goals (
            go_loopw [19] (fun s19 wv => ∃ j : Nat, kk ≤ j ∧ j ≤ body.size ∧ s19 = .int .i64 (j : Int) ∧ wv = wc) (fun s19 _ => body.size - (intOf s19).toNat)
            case atStart => exact ⟨kk, Nat.le_refl _, hkb, rfl, rfl⟩
            case round =>
              obtain ⟨j, j1, j2, rfl, rfl⟩ := hrel
              by_cases hj : j < body.size
              · have hj' : (j : Int) < (body.size : Int) := by omega
                have hb := byteOf_at body j hj
                rw [HN.out.1 j j1 hj] at hb
                go_wp2_with fail
                go_roundw
                case rel => exact ⟨j + 1, by omega, by omega, by go_num, by trivial⟩
                case measure => simp [intOf]; omega
              · have hj' : ¬ (j : Int) < (body.size : Int) := by omega
                go_wp2_with fail
                obtain ⟨wo, rfl⟩ : ∃ wo : World, wo = wr := ⟨_, rfl⟩
                go_loopw [13] (fun s13 wv => ∃ m : Nat, m ≤ c ∧ s13 = .int .i64 ((b + m : Nat) : Int) ∧ wv = wo) (fun s13 _ => b + c - (intOf s13).toNat)
                case atStart => exact ⟨0, Nat.zero_le _, rfl, rfl⟩
                case round =>
                  obtain ⟨m, hm, rfl, rfl⟩ := hrel
                  by_cases hmc : m < c
                  · have hbm : ((b + m : Nat) : Int) < (Lp.length : Int) := by have := HBC.out; omega
                    have hbn : b + m < Lp.length := by have := HBC.out; omega
                    have hx8 := HCS2.out (b + m) hbn
                    have hlt8 : (((catL (Lp.take (b + m))).size : Nat) : Int) < (a : Int) + (kk : Int) := by have := HN.out.2.1 m hmc; omega
                    generalize (catL (Lp.take (b + m))).size = z8 at hx8 hlt8
                    first
                      | (exfalso; omega)
                      | (go_wp2_with fail
                         go_roundw
                         case rel => exact ⟨m + 1, by omega, by go_num, by trivial⟩
                         case measure => simp [intOf]; omega)
                  · obtain rfl : m = c := by omega
                    by_cases hbc : b + m < Lp.length
                    · have hbm : ((b + m : Nat) : Int) < (Lp.length : Int) := by omega
                      have hx8 := HCS2.out (b + m) hbc
                      have hlt8 : ¬ (((catL (Lp.take (b + m))).size : Nat) : Int) < (a : Int) + (kk : Int) := by have := HN.out.2.2.1 hbc; omega
                      generalize (catL (Lp.take (b + m))).size = z8 at hx8 hlt8
                      go_wp2_with fail
                      go_roundw
                      case rel => exact ⟨_, k', t', l', a + kk, b + m, HM'.out, by go_num, by go_num, by simp, HS3.out⟩
                      case measure => simp [intOf]; omega
                    · have hbm : ¬ ((b + m : Nat) : Int) < (Lp.length : Int) := by omega
                      go_wp2_with fail
                      go_roundw
                      case rel => exact ⟨_, k', t', l', a + kk, b + m, HM'.out, by go_num, by go_num, by simp, HS3.out⟩
                      case measure => simp [intOf]; omega)

theorem whole_any (bodies : List ByteArray) (v : Value) (count : Int) (w : World) (hr : StrsAt w v bodies) :
    Calls Try.prog 7 #[v, .int .i64 count] w (AwakePost w) := by
  by_cases h : 20 < bodies.length ∨ count < 0 ∨ 15 < count
  · exact whole_out bodies v count w hr h
  · exact whole_ok bodies v count w hr (by omega) (by omega) (by omega)

end Go.Proofs.Ytpnbhgmcfooppaa
