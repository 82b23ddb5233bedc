/- The walk of the law PackerSum: whatever bodies, it answers true. No condition. -/
import Derived.Test.YtpnbhgmcfooppaaPq6
import Derived.Test.YtpnbhgmcfooppaaPackerPacks
namespace Go.Proofs.Ytpnbhgmcfooppaa
open Go.RowKit
set_option linter.unusedSimpArgs false
set_option linter.unusedVariables false

theorem fr_row' {W : World} {v v' : Value} {n : Nat} (h : v'.ownBlock = v.ownBlock ∨ v'.ownBlock = some W.heap.size) (hf : ∀ b, v.ownBlock = some b → n ≤ b) (hs : n ≤ W.heap.size) : ∀ b, v'.ownBlock = some b → n ≤ b := by
  intro b hb
  rcases h with h | h
  · rw [h] at hb; exact hf b hb
  · rw [h] at hb; cases hb; exact hs
theorem split_at {α : Type} {L : List α} {k : Nat} (h : k < L.length) : ∃ done p rest, L = done ++ p :: rest ∧ done.length = k :=
  ⟨L.take k, L[k], L.drop (k + 1), by rw [← List.drop_eq_getElem_cons h, List.take_append_drop], by rw [List.length_take]; omega⟩
/-- The packets of a row, one by one. -/
theorem row_pack {w : World} {pid c : Int} {v : Value} {PK : List (Bool × ByteArray)} (o : w.ownsRow 0 32 5 v (numbP pid c 0 PK).length (pdVals (numbP pid c 0 PK))) :
    ∃ ad cp, v = .slice ad PK.length cp ∧ PK.length ≤ cp ∧ cp ≤ maxLen ∧ ∀ done p rest, PK = done ++ p :: rest → ∃ g, ad = some ⟨g, 0, none⟩ ∧ PdCells w g (done.length * 5) ⟨pid, p.1, (c + (done.length : Int)) % 16, false, p.2⟩ := by
  obtain ⟨ad, cp, rfl, p1, p2, p3⟩ := row_pd o
  rw [numbP_length] at p1 ⊢
  refine ⟨ad, cp, rfl, p1, p2, fun done p rest hP => ?_⟩
  obtain ⟨g, rfl, hc⟩ := p3 (numbP pid c 0 done) ⟨pid, p.1, (c + ((0 + done.length : Nat) : Int)) % 16, false, p.2⟩ (numbP pid c (0 + done.length + 1) rest) (by rw [hP, numbP_append, numbP])
  rw [numbP_length, Nat.zero_add] at hc
  exact ⟨g, rfl, hc⟩

set_option maxRecDepth 100000 in
set_option maxHeartbeats 8000000 in
theorem packerSum_any (first : ByteArray) (v : Value) (bodies : List ByteArray) (w : World) (hr : StrsAt w v bodies) :
    Calls Try.prog 8 #[.string first, v] w (AwakePost w) := by
  obtain ⟨i0, hi, hz0, hz1, hz2⟩ := info_parts Try.infoS
  obtain ⟨ad, c, rfl, hc1, hc2, hc3⟩ := hr
  have HC := Lib.hid hc3
  clear hc3
  by_cases hout : (1400 : Int) < (first.size : Int) ∨ (¬ (1400 : Int) < (first.size : Int) ∧ (8 : Int) < (bodies.length : Int))
  · rcases hout with h | ⟨h, h1⟩
    all_goals
      go_enter Try.func8, Try.ntmps8
      go_wp2_with (go_at_call 21; (with_reducible refine (awake15 _).mono ?_); rintro e w' ⟨rfl, hs⟩; have HS2 := Lib.hid hs; clear hs)
      go_ret
      exact ⟨rfl, HS2.out⟩
  · have g1 : ¬ (1400 : Int) < (first.size : Int) := fun h => hout (.inl h)
    have g2 : ¬ (8 : Int) < (bodies.length : Int) := fun h => hout (.inr ⟨g1, h⟩)
    have hb8 : bodies.length ≤ 8 := by omega
    clear hout
    go_enter Try.func8, Try.ntmps8
    go_wp2_with fail
    obtain ⟨w0, rfl⟩ : ∃ w0 : World, w0 = w := ⟨_, rfl⟩
    go_loopw [5, 6] (fun s5 s6 wr => ∃ pre ls Lp : List ByteArray, bodies = pre ++ ls ∧ s6 = .int .i64 pre.length ∧ Lp.length = pre.length ∧ (∀ x ∈ Lp, Good x) ∧ (catL Lp).size ≤ 4096 * pre.length ∧ wr.ownsRow 0 9 1 s5 Lp.length (strVals Lp) ∧ (∀ k, s5.ownBlock = some k → w0.heap.size ≤ k) ∧ Same [] w0 wr) (fun _ s6 _ => bodies.length - (intOf s6).toNat)
    case atStart => exact ⟨[], bodies, [], rfl, rfl, rfl, (fun x hx => nomatch hx), Nat.le_refl _, World.ownsRow_nil _ _ _ _, fun b hb => (by cases hb), Same.refl _ _⟩
    case round =>
      obtain ⟨pre, ls, Lp, hL, rfl, hlp, hgd, hsz, hown, hfr, hsm⟩ := hrel
      have HG := Lib.hid hgd; have HO := Lib.hid hown; have HF := Lib.hid hfr; have HS := Lib.hid hsm
      have hpl : pre.length ≤ bodies.length := by rw [hL]; simp
      clear hgd hown hfr hsm
      cases ls with
      | cons x ls =>
        have hlen : pre.length < bodies.length := by rw [hL]; simp
        have hlt : (pre.length : Int) < (bodies.length : Int) := by omega
        obtain ⟨g, o, rfl, hx0⟩ := suffix_cell HC.out hL
        have hx := HS.out.cell hx0 (by simp)
        have HL := Lib.hid hL; have HLP := Lib.hid hlp; have HSZ := Lib.hid hsz
        have hlen16 : (Lp.length + 1) * 16 ≤ 140737488355328 := by omega
        have hl63 : Lp.length + 1 ≤ maxLen := by unfold maxLen; omega
        clear hL hx0 hlp hsz
        by_cases hxz : 1400 < x.size
        · have hxz' : (1400 : Int) < (x.size : Int) := by omega
          go_wp2_with (go_at_call 21; (with_reducible refine (awake15 _).mono ?_); rintro e w' ⟨rfl, hs⟩; have HA9 := Lib.hid hs; clear hs)
          go_ret
          exact ⟨rfl, HS.out.trans_nil HA9.out⟩
        · have hxz' : ¬ (1400 : Int) < (x.size : Int) := by omega
          have hm := fun W => made_fn x W (by omega)
          have hgm := good_madeC x (by omega)
          have hmz := hgm.size
          generalize madeC x = X at *
          have HM := Lib.hid hm; have HGM := Lib.hid hgm
          clear hm hgm
          go_wp2_with fail
          (with_reducible refine (HM.out _).mono ?_)
          rintro e w2 ⟨rfl, s2⟩
          have S2 := Lib.hid (HS.out.trans_nil s2); have HO2 := Lib.hid (own_same HO.out s2 (fun _ _ => by simp))
          clear s2 hx
          go_wp2_with (first | (at_builtin; refine wpList_append_src rfl (.tmp 41) (.tmp 47) 33 rfl 0 9 i0 _ 1 16 Try.underlying33 hi hz0 hz1 hz2 rfl (by decide) _ Lp.length (strVals Lp) rfl (by exact HO2.out.alloc _) _ 1 [.string X] rfl (by exact Reads.of_own (row_new w2 #[.string X] 9 1 rfl (by decide))) (by intro u hu; simp at hu; subst hu; rfl) hl63 hlen16 (Nat.zero_le _) ?_; intro v' w4 hown hgrow hat; have HOWN := Lib.hid hown; have HGR := Lib.hid hgrow; have HAT := Lib.hid hat; clear hown hgrow hat) | fail)
          go_roundw
          case rel =>
            refine ⟨pre ++ [x], ls, Lp ++ [X], by rw [HL.out]; simp, by simp, by simp [HLP.out], ?_, ?_, ?_, fr_next HAT.out HF.out (S2.out.alloc _), sm_next HGR.out HF.out (S2.out.alloc _)⟩
            · intro y hy
              rcases List.mem_append.1 hy with h | h
              · exact HG.out y h
              · rw [List.mem_singleton.1 h]; exact HGM.out
            · rw [catL_append, catL_one, ByteArray.size_append, List.length_append]
              have := HSZ.out; simp only [List.length_cons, List.length_nil]; omega
            · have := HOWN.out
              rw [List.length_append]
              simpa [strVals] using this
          case measure => simp [intOf]; omega
      | nil =>
        have hL2 : bodies = pre := by rw [hL]; simp
        subst hL2
        have hlt : ¬ (bodies.length : Int) < (bodies.length : Int) := by omega
        clear hL
        have hmd := fun W => made_fn first W (by omega)
        have hgm := good_madeC first (by omega)
        have hmz : (madeC first).size = first.size + 12 := size_madeC first
        generalize madeC first = H at *
        have HM := Lib.hid hmd; have HGM := Lib.hid hgm
        have hHz : H.size ≤ 1412 := by omega
        have hH12 : 12 ≤ H.size := by omega
        clear hmd hgm hmz
        go_wp2_with fail
        (with_reducible refine (HM.out _).mono ?_)
        rintro e w2 ⟨rfl, s2⟩
        have S2 := Lib.hid (HS.out.trans_nil s2); have HO2 := Lib.hid (own_same HO.out s2 (fun _ _ => by simp))
        clear s2 HM HO HS
        by_cases hfit : H.size < 183 ∨ (183 < H.size ∧ ¬ (H.size - 183) % 184 = 0)
        · have hcs : (¬ (183 : Int) < (H.size : Int) ∧ (H.size : Int) < 183) ∨ ((183 : Int) < (H.size : Int) ∧ ((H.size : Int) - 183).tmod 184 = ((H.size : Int) - 183) % 184 ∧ ((((H.size : Int) - 183) % 184) != 0) = true) := by
            rcases hfit with h | ⟨h1, h2⟩
            · exact .inl ⟨by omega, by omega⟩
            · refine .inr ⟨by omega, Int.tmod_eq_emod_of_nonneg (by omega), ?_⟩
              simp; omega
          clear hfit
          rcases hcs with ⟨h1, h2⟩ | ⟨h1, h2, h3⟩
          all_goals
            go_wp2_with (go_at_call 21; (with_reducible refine (awake15 _).mono ?_); rintro e w' ⟨rfl, hs⟩; have HA9 := Lib.hid hs; clear hs)
            go_ret
            exact ⟨rfl, S2.out.trans_nil HA9.out⟩
        · have hqq : ∃ q, H.size = 183 + 184 * q := ⟨(H.size - 183) / 184, by omega⟩
          obtain ⟨q, hq⟩ := hqq
          have HQ := Lib.hid hq
          have hcs : (¬ (183 : Int) < (H.size : Int) ∧ ¬ (H.size : Int) < 183) ∨ ((183 : Int) < (H.size : Int) ∧ ¬ (H.size : Int) < 183 ∧ ((H.size : Int) - 183).tmod 184 = ((H.size : Int) - 183) % 184 ∧ ((((H.size : Int) - 183) % 184) != 0) = false) := by
            by_cases h : 183 < H.size
            · refine .inr ⟨by omega, by omega, Int.tmod_eq_emod_of_nonneg (by omega), ?_⟩
              simp; omega
            · exact .inl ⟨by omega, by omega⟩
          clear hfit hq
          go_upto_region 11 with fail
          go_cut [65] (fun s65 wx => s65 = .bool false ∧ w2 = wx)
          case first =>
            rcases hcs with ⟨h1, h2⟩ | ⟨h1, h2, h3, h4⟩
            all_goals
              go_wp2_with fail
              go_meet
              first | exact ⟨rfl, rfl⟩ | exact ⟨congrArg Value.bool (decide_eq_false (by omega)), rfl⟩
          obtain ⟨rfl, rfl⟩ := hcut
          clear hcs
          have hL16 : (1 + Lp.length) * 16 ≤ 140737488355328 := by omega
          have hL63 : 1 + Lp.length ≤ maxLen := by unfold maxLen; omega
          go_upto_region 14 with fail
          go_cut [8] (fun s8 wx => wx.ownsRow 0 9 1 s8 1 (strVals [H]) ∧ (∀ q, s8.ownBlock = some q → w2.heap.size ≤ q) ∧ Same [] w2 wx)
          case first =>
            go_wp2_with (first | (at_builtin; refine wpList_append_src rfl (.tmp 67) (.tmp 69) 33 rfl 0 9 i0 _ 1 16 Try.underlying33 hi hz0 hz1 hz2 rfl (by decide) _ 0 [] rfl (World.ownsRow_nil _ _ _ _) _ 1 [.string H] rfl (by exact Reads.of_own (row_new w2 #[.string H] 9 1 rfl (by decide))) (by intro u hu; simp at hu; subst hu; rfl) (by decide) (by decide) (Nat.zero_le _) ?_; intro v' w4 hown hgrow hat; have HOWN := Lib.hid hown; have HGR := Lib.hid hgrow; have HAT := Lib.hid hat; clear hown hgrow hat) | fail)
            go_meet
            have hno : ∀ b, (Value.slice none 0 0).ownBlock = some b → w2.heap.size ≤ b := fun b hb => by cases hb
            exact ⟨by have := HOWN.out; simpa [strVals] using this, fr_next HAT.out hno ((Same.refl [] w2).alloc _), sm_next HGR.out hno ((Same.refl [] w2).alloc _)⟩
          obtain ⟨o8, f8, s8⟩ := hcut
          have HO8 := Lib.hid o8; have HF8 := Lib.hid f8; have HLT := Lib.hid (own_lt HO2.out)
          have hw2z := S2.out.size
          have S3 := Lib.hid (S2.out.trans_nil s8); have HO3 := Lib.hid (own_same HO2.out s8 (fun _ _ => by simp))
          have hz8 := s8.size
          clear o8 f8 s8 S2 HO2
          go_upto_region 15 with fail
          go_cut [8] (fun s8 wx => wx.ownsRow 0 9 1 s8 (H :: Lp).length (strVals (H :: Lp)) ∧ (∀ q, s8.ownBlock = some q → w2.heap.size ≤ q) ∧ Same [] w0 wx ∧ wx.ownsRow 0 9 1 u5 Lp.length (strVals Lp))
          case first =>
            go_wp2_with (first | (at_builtin; refine wpList_append_src rfl (.tmp 71) (.tmp 72) 33 rfl 0 9 i0 _ 1 16 Try.underlying33 hi hz0 hz1 hz2 rfl (by decide) _ 1 (strVals [H]) rfl HO8.out _ Lp.length (strVals Lp) rfl (Reads.of_own HO3.out) (one_strs _) hL63 hL16 (Nat.zero_le _) ?_; intro v' w4 hown hgrow hat; have HOWN := Lib.hid hown; have HGR := Lib.hid hgrow; have HAT := Lib.hid hat; clear hown hgrow hat) | fail)
            go_meet
            have hgr : wc.grownBy w4 u8.ownBlock := HGR.out
            have hat : v'.ownBlock = u8.ownBlock ∨ v'.ownBlock = some wc.heap.size := HAT.out
            have hsg : Same u8.ownBlock.toList wc w4 := Same.of_grown hgr
            refine ⟨?_, fr_row' hat HF8.out hz8, ?_, own_same HO3.out hsg (fun q hq hm => ?_)⟩
            · have := HOWN.out
              rw [List.length_cons, Nat.add_comm]
              simpa [strVals] using this
            · exact S3.out.trans hsg (fun x hx hlt => by have := HF8.out x (by simpa using hx); have := hw2z; omega)
            · have h1 := HF8.out q (by simpa using hm)
              have h2 := HLT.out q hq
              omega
          obtain ⟨o8, f8, s8, o5⟩ := hcut
          have HO8 := Lib.hid o8; have HO5 := Lib.hid o5; have S4 := Lib.hid s8
          clear o8 f8 s8 o5 HO3 S3
          go_upto_region 16 with fail
          have hgH : ∀ x ∈ [H], Good x := fun x hx => by rw [List.mem_singleton.1 hx]; exact HGM.out
          have hgB : ∀ x ∈ H :: Lp, Good x := fun x hx => by
            rcases List.mem_cons.1 hx with rfl | hx
            · exact HGM.out
            · exact HG.out x hx
          have hcH : (catL (H :: Lp)).size = H.size + (catL Lp).size := ByteArray.size_append
          have happ := sum_app H Lp q HQ.out (fun x hx => by have := (HG.out x hx).size; omega)
          have hP1 := fun W V (h : StrsAt W V [H]) => pack_ok 9 0 [H] V W (by decide) (by decide) (by decide) (by decide) h hgH (by rw [catL_one]; omega)
          have hP3 := fun W V (h : StrsAt W V (H :: Lp)) => pack_ok 9 0 (H :: Lp) V W (by decide) (by decide) (by decide) (by decide) h hgB (by omega)
          have hP2 := fun (n : Int) (h0 : 0 ≤ n) (h1 : n ≤ 15) W V (h : StrsAt W V Lp) => pack_ok 9 n Lp V W (by decide) (by decide) h0 h1 h HG.out (by omega)
          have hzA := pack_len (catL [H]).size ⟨#[]⟩ [H]
          have hzB := pack_len (catL Lp).size ⟨#[]⟩ Lp
          rw [nil_append] at hzA
          have hcl : (catL [H]).size = H.size := by rw [catL_one]
          rw [nil_append] at hzB
          rw [happ] at hP3
          generalize packG (catL [H]).size ⟨#[]⟩ [H] = PA at hP1 hP3 hzA
          generalize packG (catL Lp).size ⟨#[]⟩ Lp = PB at hP2 hP3 hzB
          have hAn : PA.length ≤ 1500 := by omega
          have hBn : PB.length ≤ 90000 := by omega
          have HP1 := Lib.hid hP1; have HP2 := Lib.hid hP2; have HP3 := Lib.hid hP3
          clear hgH hgB hcH happ hP1 hP2 hP3 hzA hzB
          go_wp2_with fail
          have hsl : StrsAt (wc.alloc (.cells #[.string H] 9)) (.slice (some ⟨wc.heap.size, 0, none⟩) 1 1) [H] := strs_of_own (L := [H]) (row_new wc #[.string H] 9 1 rfl (by decide))
          have hsa : Same [] wc (wc.alloc (.cells #[.string H] 9)) := (Same.refl [] wc).alloc _
          generalize wc.alloc (.cells #[.string H] 9) = w3 at *
          (with_reducible refine (HP1.out _ _ hsl).mono ?_)
          rintro e w5 ⟨va, rfl, oa, fa, s5⟩
          have S5 := Lib.hid ((S4.out.trans_nil hsa).trans_nil s5)
          have HA := Lib.hid oa
          have HO5' := Lib.hid (own_same HO5.out (hsa.trans_nil s5) (fun _ _ => by simp))
          have HO8' := Lib.hid (own_same HO8.out (hsa.trans_nil s5) (fun _ _ => by simp))
          obtain ⟨n, hn⟩ : ∃ n, n = (0 + (PA.length : Int)) % 16 := ⟨_, rfl⟩
          rw [← hn]
          have HN := Lib.hid hn
          have hn0 : 0 ≤ n ∧ n ≤ 15 := by omega
          clear hsl hsa oa fa s5 hn S4 HO5 HO8
          go_wp2_with fail
          (with_reducible refine (HP2.out n hn0.1 hn0.2 _ _ (strs_of_own HO5'.out)).mono ?_)
          rintro e w6 ⟨vb, rfl, ob, fb, s6⟩
          have S6 := Lib.hid (S5.out.trans_nil s6)
          have HB := Lib.hid ob
          have HA6 := Lib.hid (own_same HA.out s6 (fun _ _ => by simp))
          have HO86 := Lib.hid (own_same HO8'.out s6 (fun _ _ => by simp))
          clear ob fb s6 S5 HA HO8' HO5'
          go_wp2_with fail
          (with_reducible refine (HP3.out _ _ (strs_of_own HO86.out)).mono ?_)
          rintro e w7 ⟨vc, rfl, oc, fc, s7⟩
          have S7 := Lib.hid (S6.out.trans_nil s7)
          obtain ⟨ada, ca, rfl, a1, a2, a3⟩ := row_pack (own_same HA6.out s7 (fun _ _ => by simp))
          obtain ⟨adb, cb, rfl, b1, b2, b3⟩ := row_pack (own_same HB.out s7 (fun _ _ => by simp))
          obtain ⟨adc, cc, rfl, e1, e2, e3⟩ := row_pack oc
          rw [List.length_append] at e1 ⊢
          have HA3 := Lib.hid a3; have HB3 := Lib.hid b3; have HC3 := Lib.hid e3
          clear oc fc s7 S6 HA6 HB HO86 a3 b3 e3
          have hpp : ((PA.length : Int) + (PB.length : Int) != (PA.length : Int) + (PB.length : Int)) = false := by simp
          have hpp2 : ((((PA.length + PB.length : Nat) : Int)) != (((PA.length + PB.length : Nat) : Int))) = false := by simp
          have hcast : ((PA.length + PB.length : Nat) : Int) = (PA.length : Int) + (PB.length : Int) := by omega
          generalize hNC : PA.length + PB.length = NC at e1 hcast ⊢
          have HNC := Lib.hid hNC; have HCAST := Lib.hid hcast
          have hpp3 : ((PA.length : Int) + (PB.length : Int) != (NC : Int)) = false := by rw [hcast]; simp
          clear hNC hcast hpp hpp2
          go_wp2_with fail
          go_loopw [18] (fun s18 wv => ∃ k m : Nat, k ≤ NC ∧ s18 = .int .i64 k ∧ wv = w7.drewN m) (fun s18 _ => NC - (intOf s18).toNat)
          case atStart => exact ⟨0, 0, Nat.zero_le _, rfl, rfl⟩
          case round =>
            obtain ⟨k, m, hk, rfl, hw⟩ := hrel
            have hsm : Same [] w7 wr := by rw [hw]; exact Same.drewN _ _
            have HW := Lib.hid hw
            clear hw
            by_cases hk1 : k < NC
            · have hk2 : (k : Int) < (NC : Int) := by omega
              by_cases hka : k < PA.length
              · have hka1 : (k : Int) < (PA.length : Int) := by omega
                have hka2 : decide ((PA.length : Int) ≤ (k : Int)) = false := decide_eq_false (by omega)
                have hka3 : decide (PA.length ≤ k) = false := decide_eq_false (by omega)
                obtain ⟨done, p, rest, hP, hdk⟩ := split_at hka
                obtain ⟨ga, rfl, pa⟩ := HA3.out done p rest hP
                obtain ⟨gc, rfl, pc⟩ := HC3.out done p (rest ++ PB) (by rw [hP]; simp)
                rw [hdk] at pa pc
                obtain ⟨x0, x1, x2, x3, x4⟩ := pa.same hsm (by simp)
                obtain ⟨y0, y1, y2, y3, y4⟩ := pc.same hsm (by simp)
                simp only at x0 x1 x2 x3 x4 y0 y1 y2 y3 y4
                generalize (0 + (k : Int)) % 16 = ct at *
                obtain ⟨st, body⟩ := p
                simp only at x0 x1 x2 x3 x4 y0 y1 y2 y3 y4
                clear pa pc hP hsm hka
                go_wp2_with fail
                go_quiet (fail)
                go_wp2_with fail
                go_roundw
                case rel => exact ⟨k + 1, m + nq, by omega, by go_num, by rw [HW.out, World.drewN_drewN]⟩
                case measure => simp [intOf]; omega
              · have hka1 : decide ((k : Int) < (PA.length : Int)) = false := decide_eq_false (by omega)
                have hka3 : decide (k < PA.length) = false := decide_eq_false (by omega)
                have hka2 : (PA.length : Int) ≤ (k : Int) := by omega
                have hkd : k - PA.length < PB.length := by have := HNC.out; omega
                obtain ⟨done, p, rest, hP, hdk⟩ := split_at hkd
                obtain ⟨gb, rfl, pb⟩ := HB3.out done p rest hP
                obtain ⟨gc, rfl, pc⟩ := HC3.out (PA ++ done) p rest (by rw [hP]; simp)
                have hdk2 : (PA ++ done).length = k := by rw [List.length_append]; omega
                have hct : (n + (done.length : Int)) % 16 = (0 + (k : Int)) % 16 := by rw [HN.out]; omega
                rw [hct] at pb
                rw [hdk2] at pc
                obtain ⟨d, hd⟩ : ∃ d, d = done.length := ⟨_, rfl⟩
                rw [← hd] at pb
                have hdi : (k : Int) - (PA.length : Int) = (d : Int) := by omega
                have hdb : (d : Int) < (PB.length : Int) := by omega
                obtain ⟨x0, x1, x2, x3, x4⟩ := pb.same hsm (by simp)
                obtain ⟨y0, y1, y2, y3, y4⟩ := pc.same hsm (by simp)
                simp only at x0 x1 x2 x3 x4 y0 y1 y2 y3 y4
                generalize (0 + (k : Int)) % 16 = ct at *
                obtain ⟨st, body⟩ := p
                simp only at x0 x1 x2 x3 x4 y0 y1 y2 y3 y4
                have HCT := Lib.hid hct
                clear pb pc hP hsm hka hct hdk2 hdk hd
                go_wp2_with fail
                go_quiet (fail)
                go_wp2_with fail
                go_roundw
                case rel => exact ⟨k + 1, m + nq, by omega, by go_num, by rw [HW.out, World.drewN_drewN]⟩
                case measure => simp [intOf]; omega
            · have hk2 : ¬ (k : Int) < (NC : Int) := by omega
              have HS9 := Lib.hid hsm
              clear hsm
              have hsum := fun W => sum_fn ⟨#[]⟩ W (by decide)
              have hms : moreC ⟨#[]⟩ (⟨#[]⟩ : ByteArray).size 4294967295 = 4294967295 := rfl
              rw [hms] at hsum
              have HSUM := Lib.hid hsum
              clear hsum hms
              go_wp2_with (first
                | (go_at_call 27; (with_reducible refine (HSUM.out _).mono ?_); rintro e w' ⟨⟨rfl, _, _⟩, rfl⟩)
                | (go_at_call 21; (with_reducible refine (awake15 _).mono ?_); rintro e w' ⟨rfl, hs⟩; have HA9 := Lib.hid hs; clear hs))
              go_ret
              exact ⟨rfl, (S7.out.trans_nil HS9.out).trans_nil HA9.out⟩

end Go.Proofs.Ytpnbhgmcfooppaa
