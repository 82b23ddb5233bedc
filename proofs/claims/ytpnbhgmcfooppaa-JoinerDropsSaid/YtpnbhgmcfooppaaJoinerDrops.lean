/- The walk of the law JoinerDrops: whatever bodies and place, it answers true. No condition. -/
import Derived.Test.YtpnbhgmcfooppaaBd7
namespace Go.Proofs.Ytpnbhgmcfooppaa
open Go.RowKit
set_option linter.unusedSimpArgs false
set_option linter.unusedVariables false

theorem jdrop_new {w : World} {b : Nat} {pid : Int} {S : JS} (h : IsJS w b pid S) (hl : S.lost = 0) : Calls Try.prog 19 #[.pointer (some ⟨b, 0, none⟩)] w fun e w' => e = .returned (.tuple #[]) ∧ IsJS w' b pid newS ∧ Same [b] w w' := by
  have := drop_any h
  rw [hl] at this
  exact this
theorem nheld_any {w : World} {b : Nat} {pid : Int} (h : IsJS w b pid newS) : Calls Try.prog 15 #[.pointer (some ⟨b, 0, none⟩)] w fun e w' => e = .returned (.string ⟨#[]⟩) ∧ w = w' := held_any h

/-- A joiner, in the midst of the packets; it may follow nothing. -/
structure DMid (PK done : List (Bool × ByteArray)) (S : JS) (k : Nat) (t : ByteArray) (l : List ByteArray) : Prop where
  pk : PK = done ++ packG k t l
  fuel : (t ++ catL l).size ≤ k
  good : ∀ x ∈ l, Good x
  rel : Rel S t
  lost : S.lost = 0
  seen : SeenOk S ((0 + (done.length : Int)) % 16)
theorem DMid.start {Ls : List ByteArray} (hg : ∀ x ∈ Ls, Good x) : DMid (packG (catL Ls).size ⟨#[]⟩ Ls) [] newS (catL Ls).size ⟨#[]⟩ Ls :=
  ⟨rfl, by rw [nil_append]; exact Nat.le_refl _, hg, .inl ⟨rfl, rfl⟩, rfl, .inl rfl⟩
theorem DMid.dropped {PK done : List (Bool × ByteArray)} {S : JS} {k : Nat} {t : ByteArray} {l : List ByteArray} (h : DMid PK done S k t l) : DMid PK done newS k t l := ⟨h.pk, h.fuel, h.good, .inl ⟨rfl, rfl⟩, rfl, .inl rfl⟩
theorem DMid.next {PK done : List (Bool × ByteArray)} {S : JS} {k : Nat} {t : ByteArray} {l : List ByteArray} {p : Bool × ByteArray} {rest : List (Bool × ByteArray)} (h : DMid PK done S k t l) (hp : packG k t l = p :: rest) :
    ∃ k' t' l' S' outs, feedG 17 S 17 p.1 ((0 + (done.length : Int)) % 16) false p.2 = ⟨S', outs, 0⟩ ∧ DMid PK (done ++ [p]) S' k' t' l' := by
  obtain ⟨h1, k', t', l', S', outs, e1, e2, e3, e4⟩ := pack_step hp h.fuel h.good S ((0 + (done.length : Int)) % 16) h.rel (by omega) (by omega) h.seen
  refine ⟨k', t', l', S', outs, e2, ⟨?_, e4.fuel, e4.good, e4.rel, e4.lost.trans h.lost, ?_⟩⟩
  · rw [h.pk, hp, e1]; simp
  · refine .inr ⟨_, _, e3, by omega, by omega, ?_⟩
    rw [List.length_append]
    simp only [List.length_cons, List.length_nil]
    omega

theorem drops_out (bodies : List ByteArray) (v : Value) (drop : Int) (w : World) (hr : StrsAt w v bodies) (h : fewG bodies = false) :
    Calls Try.prog 5 #[v, .int .i64 drop] w (AwakePost w) := by
  have HB := Lib.hid (few_is bodies _ h v w hr)
  clear h hr
  go_enter Try.func5, Try.ntmps5
  go_wp2_with fail
  (with_reducible refine HB.out.mono ?_)
  rintro e w1 ⟨rfl, rfl⟩
  go_wp2_with (go_at_call 10; (with_reducible refine (awake_any _).mono ?_); rintro e w' ⟨rfl, hs⟩; have HS2 := Lib.hid hs; clear hs)
  go_ret
  exact ⟨rfl, HS2.out⟩

set_option maxRecDepth 100000 in
set_option maxHeartbeats 8000000 in
theorem drops_ok (bodies : List ByteArray) (v : Value) (drop : Int) (w : World) (hr : StrsAt w v bodies) (hb : fewG bodies = true) :
    Calls Try.prog 5 #[v, .int .i64 drop] w (AwakePost w) := by
  obtain ⟨hf1, hf2⟩ := few_yes hb
  have HFE := Lib.hid (few_is bodies _ hb v w hr)
  have HPK := Lib.hid (fun W (h : StrsAt W v bodies) => packed_any bodies v 0 W h hf1 hf2 (by omega) (by omega))
  have HR := Lib.hid hr
  clear hb hr hf1
  go_enter Try.func5, Try.ntmps5
  go_wp2_with fail
  (with_reducible refine HFE.out.mono ?_)
  rintro e w0 ⟨rfl, rfl⟩
  clear HFE
  go_wp2_with fail
  (with_reducible refine (jnew_ok 17 _ (by decide) (by decide)).mono ?_)
  rintro e w1 ⟨rfl, rfl⟩
  have hj : IsJS (w.alloc (.cells (jV 17 ⟨#[]⟩ false 0 ⟨#[]⟩ 0) 62)) w.heap.size 17 newS := heap_alloc_new w _
  have hs : Same [] w (w.alloc (.cells (jV 17 ⟨#[]⟩ false 0 ⟨#[]⟩ 0) 62)) := (Same.refl [] w).alloc _
  have hsz : (w.alloc (.cells (jV 17 ⟨#[]⟩ false 0 ⟨#[]⟩ 0) 62)).heap.size = w.heap.size + 1 := World.size_alloc _ _
  generalize w.alloc (.cells (jV 17 ⟨#[]⟩ false 0 ⟨#[]⟩ 0) 62) = w1 at *
  obtain ⟨A, hA⟩ : ∃ A, A = w.heap.size := ⟨_, rfl⟩
  rw [← hA] at hj hsz ⊢
  have HA := Lib.hid hA
  have HJ := Lib.hid hj; have HS := Lib.hid hs; have HZ := Lib.hid hsz
  clear hj hs hsz hA
  go_wp2_with fail
  (with_reducible refine (jnew_ok 17 _ (by decide) (by decide)).mono ?_)
  rintro e w2 ⟨rfl, rfl⟩
  have hj : IsJS (w1.alloc (.cells (jV 17 ⟨#[]⟩ false 0 ⟨#[]⟩ 0) 62)) w1.heap.size 17 newS := heap_alloc_new w1 _
  have hs : Same [] w1 (w1.alloc (.cells (jV 17 ⟨#[]⟩ false 0 ⟨#[]⟩ 0) 62)) := (Same.refl [] w1).alloc _
  have hsz : (w1.alloc (.cells (jV 17 ⟨#[]⟩ false 0 ⟨#[]⟩ 0) 62)).heap.size = w1.heap.size + 1 := World.size_alloc _ _
  generalize w1.alloc (.cells (jV 17 ⟨#[]⟩ false 0 ⟨#[]⟩ 0) 62) = w2 at *
  obtain ⟨B, hB⟩ : ∃ B, B = w1.heap.size := ⟨_, rfl⟩
  rw [← hB] at hj hsz ⊢
  have hAB : A < B := by have := HZ.out; omega
  have HA2 := Lib.hid (js_same HJ.out hs (by simp))
  have HB2 := Lib.hid hj; have HS2 := Lib.hid (HS.out.trans_nil hs); have HZ2 := Lib.hid hsz
  clear hj hs hsz hB HJ HS HZ
  have hr1 : StrsAt w2 v bodies := by
    obtain ⟨ad, c, rfl, q1, q2, q3⟩ := HR.out
    exact ⟨ad, c, rfl, q1, q2, fun i hi => by
      obtain ⟨a, e1, e2, e3⟩ := q3 i hi
      exact ⟨a, e1, e2, HS2.out.cell e3 (by simp)⟩⟩
  have HR1 := Lib.hid hr1
  clear hr1
  go_wp2_with fail
  (with_reducible refine (HPK.out _ HR1.out).mono ?_)
  rintro e w3 ⟨Ls, v1, v2, rfl, hgd, hcz, hll, o1, o2, s3, fr1, fr2⟩
  have hpz := pack_len (catL Ls).size ⟨#[]⟩ Ls
  rw [nil_append] at hpz
  have hnl := numb_length 0 0 (packG (catL Ls).size ⟨#[]⟩ Ls)
  obtain ⟨ad2, c2, rfl, p1, p2, p3⟩ := row_pd o2
  have hmid := DMid.start hgd
  generalize packG (catL Ls).size ⟨#[]⟩ Ls = PK at *
  have hpn : PK.length ≤ 90000 := by omega
  have hNB : ∀ (done : List (Bool × ByteArray)) (p : Bool × ByteArray) (rest : List (Bool × ByteArray)), PK = done ++ p :: rest → ∃ g, ad2 = some ⟨g, 0, none⟩ ∧ B < g ∧ PdCells w3 g (done.length * 5) ⟨17, p.1, (0 + (done.length : Int)) % 16, false, p.2⟩ := fun done p rest hP => by
    obtain ⟨g, rfl, hc⟩ := p3 (numb 0 0 done) ⟨17, p.1, (0 + ((0 + done.length : Nat) : Int)) % 16, false, p.2⟩ (numb 0 (0 + done.length + 1) rest) (by rw [hP, numb_append, numb])
    rw [numb_length, Nat.zero_add] at hc
    have := fr2 g rfl
    have := HZ2.out
    exact ⟨g, rfl, by omega, hc⟩
  have HNB := Lib.hid hNB; have HMID := Lib.hid hmid
  have hlen2 : (numb 0 0 PK).length = PK.length := hnl
  rw [hlen2] at p1 ⊢
  have HA3 := Lib.hid (js_same HA2.out s3 (by simp))
  have HB3 := Lib.hid (js_same HB2.out s3 (by simp))
  have S3 := Lib.hid (HS2.out.trans_nil s3)
  have hB3 : B < w3.heap.size := heap_lt HB3.out
  clear hgd hcz hll o1 o2 s3 fr1 fr2 hpz hnl p3 hNB hmid hlen2 HA2 HB2 HS2 HPK HR1
  go_wp2_with fail
  go_loopw [11] (fun s11 wr => ∃ (done : List (Bool × ByteArray)) (k : Nat) (t : ByteArray) (l : List ByteArray) (S Sb : JS), DMid PK done S k t l ∧ s11 = .int .i64 done.length ∧ IsJS wr A 17 S ∧ IsJS wr B 17 Sb ∧ JOk S (300 * done.length) ∧
    (((done.length : Int) ≤ drop ∧ Sb = newS) ∨ (drop < (done.length : Int) ∧ Sb = S)) ∧ Same [A, B] w3 wr) (fun s11 _ => PK.length - (intOf s11).toNat)
  case atStart =>
    refine ⟨[], _, _, Ls, newS, newS, HMID.out, rfl, HA3.out, HB3.out, new_ok, ?_, Same.refl _ _⟩
    by_cases hd : drop < 0
    · exact .inr ⟨hd, rfl⟩
    · exact .inl ⟨by show ((0 : Nat) : Int) ≤ drop; omega, rfl⟩
  case round =>
    obtain ⟨done, k, t, l, S, Sb, hmid, rfl, hja, hjb, hok, hcs, hsm⟩ := hrel
    have hdl : done.length ≤ PK.length := by rw [hmid.pk]; simp
    have HJA := Lib.hid hja; have HJB := Lib.hid hjb; have HK := Lib.hid hok; have HS := Lib.hid hsm; have HM := Lib.hid hmid
    clear hja hjb hok hsm HMID HA3 HB3
    cases hq : packG k t l with
    | nil =>
      have hP := hmid.pk
      rw [hq, List.append_nil] at hP
      have hlt : ¬ (done.length : Int) < (PK.length : Int) := by rw [hP]; omega
      have e1 : S.lost = 0 := hmid.lost
      have e2 : Sb.lost = 0 := by
        rcases hcs with ⟨_, h⟩ | ⟨_, h⟩
        · rw [h]; rfl
        · rw [h]; exact e1
      have E1 := Lib.hid e1; have E2 := Lib.hid e2
      clear hq hmid hP hcs HM e1 e2
      go_wp2_with fail
      (with_reducible refine (jlost_any HJA.out).mono ?_)
      rintro e wx ⟨rfl, rfl⟩
      rw [E1.out]
      go_wp2_with fail
      (with_reducible refine (jlost_any HJB.out).mono ?_)
      rintro e wx ⟨rfl, rfl⟩
      rw [E2.out]
      go_wp2_with (go_at_call 10; (with_reducible refine (awake_any _).mono ?_); rintro e w' ⟨rfl, hs⟩; have HA9 := Lib.hid hs; clear hs)
      go_ret
      exact ⟨rfl, (S3.out.trans HS.out (fun x hx hlt => by simp at hx; have := HA.out; omega)).trans_nil HA9.out⟩
    | cons p rest =>
      have hP := hmid.pk
      rw [hq] at hP
      have hlen : done.length < PK.length := by rw [hP]; simp
      have hlt : (done.length : Int) < (PK.length : Int) := by omega
      obtain ⟨g, rfl, hgB, hc⟩ := HNB.out done p rest hP
      have HC2 := Lib.hid hc
      clear hc hP hdl
      by_cases hlo : (done.length : Int) < drop
      · have hne : ((done.length : Int) == drop) = false := by simp; omega
        have hsb : Sb = newS := by
          rcases hcs with ⟨_, h⟩ | ⟨h, _⟩
          · exact h
          · omega
        subst hsb
        obtain ⟨k', t', l', S', outs, hfd, hmid'⟩ := hmid.next hq
        obtain ⟨st, body⟩ := p
        simp only at hfd HC2
        have hok' := feed_ok HK.out 17 17 st ((0 + (done.length : Int)) % 16) false body
        have hf := jfeed_any 17 st ((0 + (done.length : Int)) % 16) false body HJA.out HK.out (by omega)
        rw [hfd] at hf hok'
        obtain ⟨d0, d1, d2, d3, d4⟩ := HC2.out.same HS.out (by simp; omega)
        simp only at d0 d1 d2 d3 d4
        generalize (0 + (done.length : Int)) % 16 = c at *
        have HF2 := Lib.hid hf; have HM2 := Lib.hid hmid'
        have HOK := Lib.hid (show JOk S' (300 * (done ++ [(st, body)]).length) from hok'.more (by rw [List.length_append]; simp; omega))
        clear hq hmid hf hok' hfd hmid' HM hcs
        go_wp2_with fail
        (with_reducible refine HF2.out.mono ?_)
        rintro e w4 ⟨v4, rfl, n4, j4, s4⟩
        have HJA4 := Lib.hid (show IsJS w4 A 17 S' from j4)
        have HJB4 := Lib.hid (js_same HJB.out s4 (by simp; omega))
        have HS4 := Lib.hid (HS.out.trans s4 (fun x hx _ => by simp at hx; simp [hx]))
        clear n4 j4 s4 HF2 d0 d1 d2 d3 d4 HJA HJB HS
        go_wp2_with fail
        go_roundw
        case rel => exact ⟨done ++ [(st, body)], k', t', l', S', newS, HM2.out, by simp, HJA4.out, HJB4.out, HOK.out, .inl ⟨by rw [List.length_append]; simp; omega, rfl⟩, HS4.out⟩
        case measure => simp [intOf]; omega
      · have hge : ¬ (done.length : Int) < drop := hlo
        have hdd : (done.length : Int) = drop ∨ ((done.length : Int) ≠ drop ∧ Sb = S) := by
          by_cases h : (done.length : Int) = drop
          · exact .inl h
          · refine .inr ⟨h, ?_⟩
            rcases hcs with ⟨h2, _⟩ | ⟨_, h2⟩
            · omega
            · exact h2
        rcases hdd with hd | ⟨hd, hsb⟩
        case' neg.inl =>
          have heq : ((done.length : Int) == drop) = true := by simp; exact hd
          have HM2 := Lib.hid hmid.dropped
          have HL := Lib.hid hmid.lost
          have hsb : Sb = newS := by
            rcases hcs with ⟨_, h⟩ | ⟨h, _⟩
            · exact h
            · omega
          rw [hsb] at HJB
          clear hmid HM hcs hsb hd
          go_wp2_with fail
          (with_reducible refine (jdrop_new HJA.out HL.out).mono ?_)
          rintro e w4 ⟨rfl, ja4, s4⟩
          obtain ⟨T, hT⟩ : ∃ T, T = newS := ⟨_, rfl⟩
          have JA4 := Lib.hid ja4
          have JA := Lib.hid ja4
          have JB := Lib.hid (js_same HJB.out s4 (by simp; omega))
          have OK := Lib.hid (show JOk newS (300 * done.length) from new_ok.more (by omega))
          have SW := Lib.hid (HS.out.trans s4 (fun x hx _ => by simp at hx; simp [hx]))
          rw [← hT] at JA JB OK HM2
          have MT := HM2
          clear ja4 s4 HJA HJB HS HK HL HM2 hT
          obtain ⟨WW, hWW⟩ : ∃ WW, WW = w4 := ⟨_, rfl⟩
          subst hWW
          go_upto_region 15 with (go_at_call 15; (with_reducible refine (nheld_any JA4.out).mono ?_); rintro e w' ⟨rfl, rfl⟩)
          clear JA4
        case' neg.inr =>
          have heq : ((done.length : Int) == drop) = false := by simp; exact hd
          rw [hsb] at HJB
          clear hmid hcs hsb hd
          obtain ⟨T, hT⟩ : ∃ T, T = S := ⟨_, rfl⟩
          subst hT
          have JA := HJA; have JB := HJB; have OK := HK; have SW := HS; have MT := HM
          clear HJA HJB HK HS HM
          obtain ⟨WW, hWW⟩ : ∃ WW, WW = wr := ⟨_, rfl⟩
          subst hWW
          go_upto_region 15 with fail
        all_goals
          clear heq
          obtain ⟨k', t', l', S', outs, hfd, hmid'⟩ := MT.out.next hq
          obtain ⟨st, body⟩ := p
          simp only at hfd HC2
          have hgl : outs.length ≤ 300 * done.length + 600 := by
            have h := feed_len OK.out 17 17 st ((0 + (done.length : Int)) % 16) false body
            rw [hfd] at h; exact h
          have hok' := feed_ok OK.out 17 17 st ((0 + (done.length : Int)) % 16) false body
          have hf := jfeed_any 17 st ((0 + (done.length : Int)) % 16) false body JA.out OK.out (by omega)
          have hfb := fun W (h : IsJS W B 17 T) => jfeed_any 17 st ((0 + (done.length : Int)) % 16) false body h OK.out (by omega)
          rw [hfd] at hf hok' hfb
          obtain ⟨d0, d1, d2, d3, d4⟩ := HC2.out.same SW.out (by simp; omega)
          simp only at d0 d1 d2 d3 d4
          generalize (0 + (done.length : Int)) % 16 = c at *
          have HF2 := Lib.hid hf; have HFB := Lib.hid hfb; have HM2 := Lib.hid hmid'
          have HOK := Lib.hid (show JOk S' (300 * (done ++ [(st, body)]).length) from hok'.more (by rw [List.length_append]; simp; omega))
          clear hq hf hfb hok' hfd hmid' MT
          go_wp2_with fail
          (with_reducible refine HF2.out.mono ?_)
          rintro e w5 ⟨v5, rfl, n5, j5, s5⟩
          have JA5 := Lib.hid (show IsJS w5 A 17 S' from j5)
          have JB5 := Lib.hid (js_same JB.out s5 (by simp; omega))
          have HS5 := Lib.hid (SW.out.trans s5 (fun x hx _ => by simp at hx; simp [hx]))
          have O5 := Lib.hid n5
          have hBw : B < WW.heap.size := heap_lt JB.out
          clear n5 j5 s5 HF2 d0 d1 d2 d3 d4 JA JB SW
          obtain ⟨d0, d1, d2, d3, d4⟩ := HC2.out.same HS5.out (by simp; omega)
          simp only at d0 d1 d2 d3 d4
          go_wp2_with fail
          (with_reducible refine (HFB.out _ JB5.out).mono ?_)
          rintro e w6 ⟨v6, rfl, n6, j6, s6⟩
          have JB6 := Lib.hid (show IsJS w6 B 17 S' from j6)
          have JA6 := Lib.hid (js_same JA5.out s6 (by simp; omega))
          have HS6 := Lib.hid (HS5.out.trans s6 (fun x hx _ => by simp at hx; simp [hx]))
          have o6 := own_same O5.out.1 s6 (fun b hb => by have := O5.out.2 b hb; simp; omega)
          have HTX := Lib.hid (texts_quiet outs v5 v6 w6 (Reads.of_own o6) (Reads.of_own n6.1) (by omega))
          have hh : (S'.hold.toList != S'.hold.toList) = false := by simp
          clear n6 j6 s6 o6 HFB d0 d1 d2 d3 d4 JA5 JB5 HS5 O5
          by_cases hdr : (0 : Int) ≤ drop
          all_goals
            go_wp2_with (first
              | (go_at_call 14; (with_reducible refine HTX.out.mono ?_); rintro e w' ⟨rfl, m, rfl⟩)
              | (go_at_call 15; (first | (with_reducible refine (qheld JA6.out _).mono ?_) | (with_reducible refine (qheld JB6.out _).mono ?_)); rintro e w' ⟨rfl, rfl⟩))
            go_roundw
            case rel => exact ⟨done ++ [(st, body)], k', t', l', S', S', HM2.out, by simp, by first | exact JA6.out | exact js_same JA6.out (Same.drewN _ _) (by simp), by first | exact JB6.out | exact js_same JB6.out (Same.drewN _ _) (by simp), HOK.out, .inr ⟨by rw [List.length_append]; simp; omega, rfl⟩, by first | exact HS6.out | exact HS6.out.trans_nil (Same.drewN _ _)⟩
            case measure => simp [intOf]; omega

theorem joinerDrops_any (v : Value) (bodies : List ByteArray) (drop : Int) (w : World) (hr : StrsAt w v bodies) :
    Calls Try.prog 5 #[v, .int .i64 drop] w (AwakePost w) := by
  cases hf : fewG bodies with
  | false => exact drops_out bodies v drop w hr hf
  | true => exact drops_ok bodies v drop w hr hf

end Go.Proofs.Ytpnbhgmcfooppaa
