/- The walk of the law PackerMany: whatever bodies, it answers true. Condition: the table 'widths' lies as the program's text lays it. -/
import Derived.Test.YtpnbhgmcfooppaaDoorDMn2
import Derived.Test.YtpnbhgmcfooppaaDoorDBy1
import Derived.Test.YtpnbhgmcfooppaaDoorDPq6
namespace Go.Proofs.YtpnbhgmcfooppaaDoor
open Go.RowKit
set_option linter.unusedSimpArgs false
set_option linter.unusedVariables false

/-- Packets' bodies are not too long. -/
theorem pack_small : ∀ (k : Nat) (t : ByteArray) (l : List ByteArray), (∀ x ∈ l, 0 < x.size) → ∀ p ∈ packG k t l, p.2.size ≤ 184
  | 0, _, _, _, p, hp => by simp [packG] at hp
  | k + 1, t, l, hpos, p, hp => by
    by_cases h0 : (t ++ catL l).size = 0
    · rw [pack_nil _ h0] at hp; simp at hp
    · rw [pack_next hpos h0] at hp
      obtain ⟨_, h2, h3⟩ := next_size t l h0 hpos
      rcases List.mem_cons.1 hp with rfl | hp
      · exact h2
      · exact pack_small k _ _ (fun x hx => hpos x (h3 x hx)) p hp
theorem numbP_chk (c : Int) (h0 : 0 ≤ c) : ∀ (i : Nat) (L : List (Bool × ByteArray)), (∀ p ∈ L, p.2.size ≤ 184) → ∀ q ∈ numbP 9 c i L, chkP q = 0
  | i, [], _, q, hq => by simp [numbP] at hq
  | i, p :: L, h, q, hq => by
    rw [numbP] at hq
    rcases List.mem_cons.1 hq with rfl | hq
    · have h1 := h p List.mem_cons_self
      show chkG 9 ((c + (i : Int)) % 16) p.2 = 0
      unfold chkG; rw [if_neg (by omega), if_neg (by omega)]
    · exact numbP_chk c h0 (i + 1) L (fun x hx => h x (List.mem_cons_of_mem _ hx)) q hq
/-- The sizes of texts. -/
def szsI (L : List ByteArray) : List Int := L.map fun x => (x.size : Int)
def intVals (xs : List Int) : List Value := xs.map (Value.int .i64)
theorem szs_sizes (L : List ByteArray) : sizesL (xsL (szsI L)) = sizesL L := by
  unfold sizesL xsL szsI
  rw [List.map_map, List.map_map]
  refine List.map_congr_left fun x hx => ?_
  show (xS ((x.size : Int)).toNat).size = x.size
  rw [size_xS]; omega
theorem many_same (L : List ByteArray) : (packG (catL (xsL (szsI L))).size ⟨#[]⟩ (xsL (szsI L))).length = (packG (catL L).size ⟨#[]⟩ L).length := by
  have h := szs_sizes L
  have hc : (catL (xsL (szsI L))).size = (catL L).size := by rw [cat_sizes, cat_sizes, h]
  rw [hc]
  exact pack_sizes _ _ _ _ _ rfl h
theorem szsI_length (L : List ByteArray) : (szsI L).length = L.length := by simp [szsI]
theorem nums_of_own {w : World} {b : Nat} {v : Value} {xs : List Int} (h : w.ownsRow b 3 1 v xs.length (intVals xs)) : NumsAt w v xs := by
  rcases h.2 with ⟨rfl, h0⟩ | ⟨g, cap, cur, rfl, _, hg, hnc, hcm, hcs, ht⟩
  · have : xs = [] := List.eq_nil_of_length_eq_zero h0
    subst this
    exact ⟨none, 0, rfl, Nat.le_refl _, Nat.zero_le _, fun i hi => absurd hi (Nat.not_lt_zero _)⟩
  · refine ⟨_, cap, rfl, hnc, hcm, fun i hi => ⟨_, rfl, rfl, ?_⟩⟩
    have h1 := congrArg (fun z => z[i]?) ht
    simp only [List.getElem?_take] at h1
    rw [if_pos (by omega)] at h1
    rw [cell_of hg, ← Array.getElem?_toList, Nat.zero_add, h1]
    simp [intVals, hi]
theorem last_cell {w : World} {b e g n c : Nat} {xs : List Value} {x : Value} (h : w.ownsRow b e 1 (.slice (some ⟨g, 0, none⟩) (n + 1) c) (n + 1) (xs ++ [x])) : w.cell? ⟨g, n, none⟩ = some x := by
  have hx : xs.length = n := by have := h.1; simp at this; omega
  have := World.ownsRow.cells h rfl n x (by rw [← hx]; simp)
  rwa [Addr.add_lit, Nat.zero_add] at this
theorem Tryd.infoI : (Tryd.prog.info? 3).map (fun i => (i.zero, i.size, i.bytes)) = some (some (.int .i64 0), 1, 8) := by kernel_rfl

set_option maxRecDepth 100000 in
set_option maxHeartbeats 16000000 in
theorem packerMany_any (v : Value) (bodies : List ByteArray) (count : Int) (w : World) (hr : StrsAt w v bodies) (hT : Tab w) :
    Calls Tryd.prog 6 #[v, .int .i64 count] w (AwakePost w) := by
  obtain ⟨i0, hi, hz0, hz1, hz2⟩ := info_parts Tryd.infoX
  obtain ⟨j0, hj, hy0, hy1, hy2⟩ := info_parts Tryd.infoI
  obtain ⟨ad, c, rfl, hc1, hc2, hc3⟩ := hr
  have HC := Lib.hid hc3; have HT := Lib.hid hT
  clear hc3 hT
  by_cases hout : (20 : Int) < (bodies.length : Int) ∨ (¬ (20 : Int) < (bodies.length : Int) ∧ count < 0) ∨ (¬ (20 : Int) < (bodies.length : Int) ∧ ¬ count < 0 ∧ (15 : Int) < count)
  · rcases hout with h | ⟨h, h1⟩ | ⟨h, h1, h2⟩
    all_goals
      go_enter Tryd.func6, Tryd.ntmps6
      go_wp2_with (go_at_call 16; (with_reducible refine (awake15 _).mono ?_); rintro e w' ⟨rfl, hs⟩; have HS2 := Lib.hid hs; clear hs)
      go_ret
      exact ⟨rfl, HS2.out⟩
  · have g1 : ¬ (20 : Int) < (bodies.length : Int) := fun h => hout (.inl h)
    have g2 : ¬ count < 0 := fun h => hout (.inr (.inl ⟨g1, h⟩))
    have g3 : ¬ (15 : Int) < count := fun h => hout (.inr (.inr ⟨g1, g2, h⟩))
    have hb8 : bodies.length ≤ 20 := by omega
    clear hout
    go_enter Tryd.func6, Tryd.ntmps6
    go_wp2_with fail
    obtain ⟨w0, rfl⟩ : ∃ w0 : World, w0 = w := ⟨_, rfl⟩
    go_loopw [5, 6, 7, 8] (fun s5 s6 s7 s8 wr => ∃ pre ls Lp : List ByteArray, bodies = pre ++ ls ∧ s8 = .int .i64 pre.length ∧ Lp.length = pre.length ∧ (∀ x ∈ Lp, Good x) ∧ (catL Lp).size ≤ 4096 * pre.length ∧ s7 = .int .i64 ((catL Lp).size : Nat) ∧ wr.ownsRow 0 9 1 s5 Lp.length (strVals Lp) ∧ (∀ k, s5.ownBlock = some k → w0.heap.size ≤ k) ∧ wr.ownsRow 0 3 1 s6 Lp.length (intVals (szsI Lp)) ∧ (∀ k, s6.ownBlock = some k → w0.heap.size ≤ k) ∧ (∀ k, s5.ownBlock = some k → s6.ownBlock ≠ some k) ∧ Same [] w0 wr) (fun _ _ _ s8 _ => bodies.length - (intOf s8).toNat)
    case atStart => exact ⟨[], bodies, [], rfl, rfl, rfl, (fun x hx => nomatch hx), Nat.le_refl _, rfl, World.ownsRow_nil _ _ _ _, fun b hb => (by cases hb), World.ownsRow_nil _ _ _ _, fun b hb => (by cases hb), fun b hb => (by cases hb), Same.refl _ _⟩
    case round =>
      obtain ⟨pre, ls, Lp, hL, rfl, hlp, hgd, hsz, rfl, hown, hfr, hown6, hfr6, hdj, hsm⟩ := hrel
      have HG := Lib.hid hgd; have HO := Lib.hid hown; have HF := Lib.hid hfr; have HO6 := Lib.hid hown6; have HF6 := Lib.hid hfr6; have HDJ := Lib.hid hdj; have HS := Lib.hid hsm
      have hpl : pre.length ≤ bodies.length := by rw [hL]; simp
      clear hgd hown hfr hown6 hfr6 hdj hsm
      cases ls with
      | cons x ls =>
        have hlen : pre.length < bodies.length := by rw [hL]; simp
        have hlt : (pre.length : Int) < (bodies.length : Int) := by omega
        obtain ⟨g, o, rfl, hx0⟩ := suffix_cell HC.out hL
        have hx := HS.out.cell hx0 (by simp)
        have HL := Lib.hid hL; have HLP := Lib.hid hlp; have HSZ := Lib.hid hsz
        have hlen16 : (Lp.length + 1) * 16 ≤ 140737488355328 := by omega
        have hlen8 : (Lp.length + 1) * 8 ≤ 140737488355328 := by omega
        have hl63 : Lp.length + 1 ≤ maxLen := by unfold maxLen; omega
        clear hL hx0 hlp hsz
        by_cases hxz : 1400 < x.size
        · have hxz' : (1400 : Int) < (x.size : Int) := by omega
          go_wp2_with (go_at_call 16; (with_reducible refine (awake15 _).mono ?_); rintro e w' ⟨rfl, hs⟩; have HA9 := Lib.hid hs; clear hs)
          go_ret
          exact ⟨rfl, HS.out.trans_nil HA9.out⟩
        · have hxz' : ¬ (1400 : Int) < (x.size : Int) := by omega
          have hm := fun W => made_fn x W (by omega)
          have hgm := good_madeC x (by omega)
          have hmz := hgm.size
          generalize madeC x = X at *
          have HM := Lib.hid hm; have HGM := Lib.hid hgm
          clear hm hgm
          go_wp2_with fail
          (with_reducible refine (HM.out _).mono ?_)
          rintro e w2 ⟨rfl, s2⟩
          have S2 := Lib.hid (HS.out.trans_nil s2); have HO2 := Lib.hid (own_same HO.out s2 (fun _ _ => by simp)); have HO62 := Lib.hid (own_same HO6.out s2 (fun _ _ => by simp))
          clear s2 hx
          go_upto_region 12 with (first | (at_builtin; refine wpList_append_src rfl (.tmp 39) (.tmp 45) 22 rfl 0 9 i0 _ 1 16 Tryd.underlying22 hi hz0 hz1 hz2 rfl (by decide) _ Lp.length (strVals Lp) rfl (by exact HO2.out.alloc _) _ 1 [.string X] rfl (by exact Reads.of_own (row_new w2 #[.string X] 9 1 rfl (by decide))) (by intro u hu; simp at hu; subst hu; rfl) hl63 hlen16 (Nat.zero_le _) ?_; intro v' w4 hown hgrow hat; have HOWN := Lib.hid hown; have HGR := Lib.hid hgrow; have HAT := Lib.hid hat; clear hown hgrow hat) | fail)
          have S4 := Lib.hid (sm_next HGR.out HF.out (S2.out.alloc _))
          have F4 := Lib.hid (fr_next HAT.out HF.out (S2.out.alloc _))
          have hs24 : Same u5.ownBlock.toList w2 w4 := ((Same.refl u5.ownBlock.toList w2).alloc _).trans (Same.of_grown HGR.out) (fun k hk _ => hk)
          have hat := HAT.out
          rw [World.size_alloc] at hat
          have H64 := Lib.hid (own_same HO62.out hs24 (fun k hk hm => HDJ.out k (by simpa using hm) hk))
          have hlt6 := own_lt HO62.out
          have hdj4 : ∀ k, v'.ownBlock = some k → u6.ownBlock ≠ some k := fun k hk h6 => by
            rcases hat with h | h
            · rw [h] at hk; exact HDJ.out k hk h6
            · rw [h] at hk; cases hk
              have := hlt6 _ h6; omega
          have HDJ4 := Lib.hid hdj4; have HLT4 := Lib.hid (own_lt HOWN.out)
          obtain ⟨g', cap', cur', rfl, _⟩ := grow_succ HOWN.out
          have c4 := last_cell HOWN.out
          rw [HLP.out] at c4
          have hidx : (pre.length : Int) < ((Lp.length : Nat) : Int) + 1 := by have := HLP.out; omega
          have hall : (catL Lp).size ≤ 100000 := by have := HSZ.out; omega
          have hXs : X.size ≤ 4096 := hmz.2
          clear hs24 hat hlt6 hdj4 hmz
          go_upto_region 13 with (first | (at_builtin; refine wpList_append_src rfl (.tmp 47) (.tmp 53) 42 rfl 0 3 j0 _ 1 8 Tryd.underlying42 hj hy0 hy1 hy2 rfl (by decide) _ Lp.length (intVals (szsI Lp)) rfl (by exact H64.out.alloc _) _ 1 [.int .i64 (X.size : Int)] rfl (by exact Reads.of_own (row_new w4 #[.int .i64 (X.size : Int)] 3 1 rfl (by decide))) (by intro u hu; simp at hu; subst hu; rfl) hl63 hlen8 (Nat.zero_le _) ?_; intro v6 w5 hown hgrow hat; have HOWN6 := Lib.hid hown; have HGR6 := Lib.hid hgrow; have HAT6 := Lib.hid hat; clear hown hgrow hat) | fail)
          have hs45 : Same u6.ownBlock.toList w4 w5 := ((Same.refl u6.ownBlock.toList w4).alloc _).trans (Same.of_grown HGR6.out) (fun k hk _ => hk)
          have H55 := Lib.hid (own_same HOWN.out hs45 (fun k hk hm => HDJ4.out k hk (by simpa using hm)))
          have c5 := last_cell H55.out
          rw [HLP.out] at c5
          have S5 := Lib.hid (sm_next HGR6.out HF6.out (S4.out.alloc _))
          have F6 := Lib.hid (fr_next HAT6.out HF6.out (S4.out.alloc _))
          have hat6 := HAT6.out
          rw [World.size_alloc] at hat6
          have hdj5 : ∀ k, (Value.slice (some ⟨g', 0, none⟩) (Lp.length + 1) cap').ownBlock = some k → v6.ownBlock ≠ some k := fun k hk h6 => by
            rcases hat6 with h | h
            · rw [h] at h6; exact HDJ4.out k hk h6
            · rw [h] at h6; cases h6
              have := HLT4.out _ hk; omega
          have HDJ5 := Lib.hid hdj5
          clear c4 hs45 hat6 hdj5
          go_wp2_with fail
          go_roundw
          case rel =>
            refine ⟨pre ++ [x], ls, Lp ++ [X], by rw [HL.out]; simp, by simp, by simp [HLP.out], ?_, ?_, ?_, ?_, F4.out, ?_, F6.out, HDJ5.out, S5.out⟩
            · intro y hy
              rcases List.mem_append.1 hy with h | h
              · exact HG.out y h
              · rw [List.mem_singleton.1 h]; exact HGM.out
            · rw [catL_append, catL_one, ByteArray.size_append, List.length_append]
              have := HSZ.out; simp only [List.length_cons, List.length_nil]; omega
            · rw [catL_append, catL_one, ByteArray.size_append]; go_num
            · have := H55.out
              rw [List.length_append]
              simpa [strVals] using this
            · have := HOWN6.out
              rw [List.length_append]
              simpa [intVals, szsI] using this
          case measure => simp [intOf]; omega
      | nil =>
        have hL2 : bodies = pre := by rw [hL]; simp
        subst hL2
        have hlt : ¬ (bodies.length : Int) < (bodies.length : Int) := by omega
        clear hL
        have hP := fun W V (h : StrsAt W V Lp) => pack_ok 9 count Lp V W (by decide) (by decide) (by omega) (by omega) h HG.out (by omega)
        have hz := pack_len (catL Lp).size ⟨#[]⟩ Lp
        rw [nil_append] at hz
        have hmany := pack_many (catL Lp).size ⟨#[]⟩ Lp (by rw [nil_append]; exact Nat.le_refl _)
        have hfew := pack_few (catL Lp).size ⟨#[]⟩ Lp
        rw [nil_append] at hmany hfew
        rw [if_pos (show (⟨#[]⟩ : ByteArray).size = 0 from rfl)] at hfew
        have hsm := many_same Lp
        have hpos : ∀ x ∈ Lp, 0 < x.size := fun x hx => by have := (HG.out x hx).size; omega
        have hsmall := pack_small (catL Lp).size ⟨#[]⟩ Lp hpos
        obtain ⟨PK, hPK⟩ : ∃ PK, PK = packG (catL Lp).size ⟨#[]⟩ Lp := ⟨_, rfl⟩
        rw [← hPK] at hP hz hmany hfew hsm hsmall
        have hchk := numbP_chk count (by omega) 0 PK hsmall
        have hbz := size_catP _ hchk
        rw [numbP_length] at hbz
        have hmay : ∀ y ∈ szsI Lp, MayN y := by
          intro y hy
          unfold szsI at hy
          obtain ⟨z, hz, rfl⟩ := List.mem_map.1 hy
          have := (HG.out z hz).size
          unfold MayN; omega
        obtain ⟨n, hn⟩ : ∃ n, n = PK.length := ⟨_, rfl⟩
        obtain ⟨al, hal⟩ : ∃ al, al = (catL Lp).size := ⟨_, rfl⟩
        rw [← hn] at hz hmany hfew hsm hbz
        rw [← hal] at hz hmany hfew hsz ⊢
        have hn1 : n ≤ 82000 := by omega
        have hq1 : (n : Int) ≤ ((al : Int) + 183) / 184 + (Lp.length : Int) := by omega
        have hq2 : (al : Int) ≤ 184 * (n : Int) := by omega
        have HP := Lib.hid hP; have HCHK := Lib.hid hchk; have HBZ := Lib.hid hbz; have HMAY := Lib.hid hmay; have HSM := Lib.hid hsm; have HN := Lib.hid hn
        have hLl : Lp.length ≤ 20 := by omega
        have hal2 : al ≤ 82000 := by omega
        clear hP hmany hfew hsm hpos hsmall hchk hbz hmay hn hPK hal hlp
        have hl5 : ∃ ad5 c5, u5 = .slice ad5 Lp.length c5 := by
          obtain ⟨ad5, c5, h, _⟩ := strs_of_own HO.out
          exact ⟨ad5, c5, h⟩
        obtain ⟨ad5, c5, rfl⟩ := hl5
        go_wp2_with fail
        (with_reducible refine (HP.out _ _ (strs_of_own HO.out)).mono ?_)
        rintro e w3 ⟨va, rfl, oa, fa, s3⟩
        have S3 := Lib.hid (HS.out.trans_nil s3); have OA := Lib.hid oa
        have O63 := Lib.hid (own_same HO6.out s3 (fun _ _ => by simp))
        have hla : ∃ ada ca, va = .slice ada n ca := by
          obtain ⟨ada, ca, h, _⟩ := pkts_of_own oa
          rw [numbP_length, ← HN.out] at h
          exact ⟨ada, ca, h⟩
        obtain ⟨ada, ca, rfl⟩ := hla
        rw [← HN.out]
        clear oa fa s3
        have HBY := Lib.hid (bytes_any (numbP 9 count 0 PK) _ w3 (pkts_of_own OA.out) (HT.out.same S3.out (by simp)) (by rw [numbP_length, ← HN.out]; omega))
        go_wp2_with fail
        (with_reducible refine HBY.out.mono ?_)
        rintro e w4 ⟨s4, h4⟩
        have S4 := Lib.hid (S3.out.trans_nil s4)
        have O64 := Lib.hid (own_same O63.out s4 (fun _ _ => by simp))
        have he : e = .returned (.tuple #[.string (catP (numbP 9 count 0 PK)), .int .i64 0]) := by
          rcases h4 with ⟨_, h⟩ | ⟨pre, q, post, h1, _, h2, _⟩
          · exact h
          · exact absurd (HCHK.out q (by rw [h1]; simp)) h2
        subst he
        obtain ⟨bb, hbb⟩ : ∃ bb, bb = catP (numbP 9 count 0 PK) := ⟨_, rfl⟩
        rw [← hbb]
        have hbsz : (bb.size : Int) = 188 * (n : Int) := by rw [hbb]; have := HBZ.out; omega
        clear h4 s4 hbb HBY
        have HMN := Lib.hid (many_any (szsI Lp) _ w4 (nums_of_own (by rw [szsI_length]; exact O64.out)) (by rw [szsI_length]; omega))
        go_wp2_with fail
        (with_reducible refine HMN.out.mono ?_)
        rintro e w5 ⟨s5, h5⟩
        have S5 := Lib.hid (S4.out.trans_nil s5)
        have he : e = .returned (.int .i64 (n : Int)) := by
          rcases h5 with ⟨_, h⟩ | ⟨⟨y, h1, h2⟩, _⟩
          · rw [HSM.out] at h; exact h
          · exact absurd (HMAY.out y h1) h2
        subst he
        clear h5 s5 HMN
        go_wp2_with (go_at_call 16; (with_reducible refine (awake15 _).mono ?_); rintro e w' ⟨rfl, hs⟩; have HA9 := Lib.hid hs; clear hs)
        go_ret
        exact ⟨rfl, S5.out.trans_nil HA9.out⟩
end Go.Proofs.YtpnbhgmcfooppaaDoor
