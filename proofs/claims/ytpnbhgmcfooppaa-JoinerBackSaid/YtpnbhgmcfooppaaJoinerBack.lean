/- The walk of the law JoinerBack: whatever bodies, count and places, it answers true. No condition. -/
import Derived.Test.YtpnbhgmcfooppaaBd7
namespace Go.Proofs.Ytpnbhgmcfooppaa
open Go.RowKit
set_option linter.unusedSimpArgs false
set_option linter.unusedVariables false

/-- Too much, or a count that may not be. -/
theorem back_out (bodies : List ByteArray) (v : Value) (count : Int) (tw : List Int) (vt : Value) (w : World) (hr : StrsAt w v bodies) (ht : NumsAt w vt tw) (h : fewG bodies = false ∨ count < 0 ∨ 15 < count ∨ 100 < tw.length) :
    Calls Try.prog 4 #[v, .int .i64 count, vt] w (AwakePost w) := by
  obtain ⟨adt, ct, rfl, ht1, ht2, ht3⟩ := ht
  clear ht3
  have hcs : (fewG bodies = false) ∨ (fewG bodies = true ∧ count < 0) ∨ (fewG bodies = true ∧ ¬ count < 0 ∧ 15 < count) ∨ (fewG bodies = true ∧ ¬ count < 0 ∧ ¬ 15 < count ∧ (100 : Int) < (tw.length : Int)) := by
    cases hf : fewG bodies with
    | false => exact .inl rfl
    | true =>
      rcases h with h | h | h | h
      · rw [hf] at h; cases h
      · exact .inr (.inl ⟨rfl, h⟩)
      · exact .inr (.inr (.inl ⟨rfl, by omega, h⟩))
      · by_cases h1 : count < 0
        · exact .inr (.inl ⟨rfl, h1⟩)
        · by_cases h2 : 15 < count
          · exact .inr (.inr (.inl ⟨rfl, by omega, h2⟩))
          · exact .inr (.inr (.inr ⟨rfl, by omega, by omega, by omega⟩))
  rcases hcs with hb | ⟨hb, g1⟩ | ⟨hb, g1, g2⟩ | ⟨hb, g1, g2, g3⟩
  all_goals
    have HB := Lib.hid (few_is bodies _ hb v w hr)
    clear h hr hb
    go_enter Try.func4, Try.ntmps4
    go_wp2_with fail
    (with_reducible refine HB.out.mono ?_)
    rintro e w1 ⟨rfl, rfl⟩
    go_wp2_with (go_at_call 10; (with_reducible refine (awake_any _).mono ?_); rintro e w' ⟨rfl, hs⟩; have HS2 := Lib.hid hs; clear hs)
    go_ret
    exact ⟨rfl, HS2.out⟩

/-- The joiner, in the midst of the packets. -/
structure Mid (PK done : List (Bool × ByteArray)) (Ls G : List ByteArray) (S : JS) (count : Int) (k : Nat) (t : ByteArray) (l : List ByteArray) : Prop where
  pk : PK = done ++ packG k t l
  fuel : (t ++ catL l).size ≤ k
  good : ∀ x ∈ l, Good x
  fol : Fol S t
  lost : S.lost = 0
  seen : SeenOk S ((count + (done.length : Int)) % 16)
  got : G ++ remain S t l = Ls
theorem Mid.start {Ls : List ByteArray} (hg : ∀ x ∈ Ls, Good x) (count : Int) : Mid (packG (catL Ls).size ⟨#[]⟩ Ls) [] Ls [] newS count (catL Ls).size ⟨#[]⟩ Ls :=
  ⟨rfl, by rw [nil_append]; exact Nat.le_refl _, hg, .inl ⟨rfl, rfl⟩, rfl, .inl rfl, rfl⟩
theorem Mid.next {PK done : List (Bool × ByteArray)} {Ls G : List ByteArray} {S : JS} {count : Int} {k : Nat} {t : ByteArray} {l : List ByteArray} {p : Bool × ByteArray} {rest : List (Bool × ByteArray)} (h : Mid PK done Ls G S count k t l) (hp : packG k t l = p :: rest) (hc : 0 ≤ count) :
    p.2.size ≤ 184 ∧ ∃ k' t' l' S' outs, feedG 17 S 17 p.1 ((count + (done.length : Int)) % 16) false p.2 = ⟨S', outs, 0⟩ ∧ S'.seen = some ((count + (done.length : Int)) % 16, p.2) ∧ Mid PK (done ++ [p]) Ls (G ++ outs) S' count k' t' l' := by
  obtain ⟨h1, k', t', l', S', outs, e1, e2, e3, e4⟩ := pack_step hp h.fuel h.good S ((count + (done.length : Int)) % 16) (.inr h.fol) (by omega) (by omega) h.seen
  obtain ⟨f1, f2⟩ := e4.fol h.fol
  refine ⟨h1, k', t', l', S', outs, e2, e3, ⟨?_, e4.fuel, e4.good, f1, e4.lost.trans h.lost, ?_, ?_⟩⟩
  · rw [h.pk, hp, e1]; simp
  · refine .inr ⟨_, _, e3, by omega, by omega, ?_⟩
    rw [List.length_append]
    simp only [List.length_cons, List.length_nil]
    omega
  · rw [List.append_assoc, f2, h.got]
theorem Mid.done {PK done : List (Bool × ByteArray)} {Ls G : List ByteArray} {S : JS} {count : Int} {k : Nat} {t : ByteArray} {l : List ByteArray} (h : Mid PK done Ls G S count k t l) (hp : packG k t l = []) : G = Ls ∧ S.hold = ⟨#[]⟩ ∧ S.lost = 0 := by
  obtain ⟨h1, rfl⟩ := pack_end hp h.fuel h.good
  refine ⟨?_, ?_, h.lost⟩
  · have := h.got
    unfold remain at this
    rw [if_pos h1, List.append_nil] at this
    exact this
  · rcases h.fol with ⟨_, h2⟩ | ⟨_, _, h2⟩
    · exact h2
    · omega

theorem fr_row {W : World} {v v' : Value} {n : Nat} (h : v'.ownBlock = v.ownBlock ∨ v'.ownBlock = some W.heap.size) (hf : ∀ b, v.ownBlock = some b → n ≤ b) (hs : n ≤ W.heap.size) : ∀ b, v'.ownBlock = some b → n ≤ b := by
  intro b hb
  rcases h with h | h
  · rw [h] at hb; exact hf b hb
  · rw [h] at hb; cases hb; exact hs

set_option maxRecDepth 100000 in
set_option maxHeartbeats 8000000 in
theorem back_ok (bodies : List ByteArray) (v : Value) (count : Int) (tw : List Int) (vt : Value) (w : World) (hr : StrsAt w v bodies) (ht : NumsAt w vt tw) (hb : fewG bodies = true) (h0 : 0 ≤ count) (h1 : count ≤ 15) (ht100 : tw.length ≤ 100) :
    Calls Try.prog 4 #[v, .int .i64 count, vt] w (AwakePost w) := by
  obtain ⟨i0, hi, hz0, hz1, hz2⟩ := info_parts Try.infoS
  obtain ⟨adt, ct, rfl, ht1, ht2, ht3⟩ := ht
  obtain ⟨hf1, hf2⟩ := few_yes hb
  have HFE := Lib.hid (few_is bodies _ hb v w hr)
  have HPK := Lib.hid (fun W (h : StrsAt W v bodies) => packed_any bodies v count W h hf1 hf2 h0 h1)
  have HR := Lib.hid hr; have HT := Lib.hid ht3
  clear hb hr ht3 hf1
  have g1 : ¬ count < 0 := by omega
  have g2 : ¬ (15 : Int) < count := by omega
  have g3 : ¬ (100 : Int) < (tw.length : Int) := by omega
  go_enter Try.func4, Try.ntmps4
  go_wp2_with fail
  (with_reducible refine HFE.out.mono ?_)
  rintro e w0 ⟨rfl, rfl⟩
  clear HFE
  go_wp2_with fail
  (with_reducible refine (jnew_ok 17 _ (by decide) (by decide)).mono ?_)
  rintro e w1 ⟨rfl, rfl⟩
  have hj : IsJS (w.alloc (.cells (jV 17 ⟨#[]⟩ false 0 ⟨#[]⟩ 0) 62)) w.heap.size 17 newS := heap_alloc_new w _
  have hs : Same [] w (w.alloc (.cells (jV 17 ⟨#[]⟩ false 0 ⟨#[]⟩ 0) 62)) := (Same.refl [] w).alloc _
  have hsz : (w.alloc (.cells (jV 17 ⟨#[]⟩ false 0 ⟨#[]⟩ 0) 62)).heap.size = w.heap.size + 1 := World.size_alloc _ _
  generalize w.alloc (.cells (jV 17 ⟨#[]⟩ false 0 ⟨#[]⟩ 0) 62) = w1 at *
  obtain ⟨A, hA⟩ : ∃ A, A = w.heap.size := ⟨_, rfl⟩
  rw [← hA] at hj hsz ⊢
  have HA := Lib.hid hA
  have HJ := Lib.hid hj; have HS := Lib.hid hs; have HZ := Lib.hid hsz
  clear hj hs hsz hA
  have hr1 : StrsAt w1 v bodies := by
    obtain ⟨ad, c, rfl, q1, q2, q3⟩ := HR.out
    exact ⟨ad, c, rfl, q1, q2, fun i hi => by
      obtain ⟨a, e1, e2, e3⟩ := q3 i hi
      exact ⟨a, e1, e2, HS.out.cell e3 (by simp)⟩⟩
  have HR1 := Lib.hid hr1
  clear hr1
  go_wp2_with fail
  (with_reducible refine (HPK.out _ HR1.out).mono ?_)
  rintro e w2 ⟨Ls, v1, v2, rfl, hgd, hcz, hll, o1, o2, s2, fr1, fr2⟩
  have hpz := pack_len (catL Ls).size ⟨#[]⟩ Ls
  rw [nil_append] at hpz
  have hnl := numb_length count 0 (packG (catL Ls).size ⟨#[]⟩ Ls)
  obtain ⟨ad2, c2, rfl, p1, p2, p3⟩ := row_pd o2
  have HW := Lib.hid o1; have HF1 := Lib.hid fr1
  have hmid := Mid.start hgd count
  generalize packG (catL Ls).size ⟨#[]⟩ Ls = PK at *
  have hpn : PK.length ≤ 90000 := by omega
  have hNB : ∀ (done : List (Bool × ByteArray)) (p : Bool × ByteArray) (rest : List (Bool × ByteArray)), PK = done ++ p :: rest → ∃ g, ad2 = some ⟨g, 0, none⟩ ∧ A < g ∧ PdCells w2 g (done.length * 5) ⟨17, p.1, (count + (done.length : Int)) % 16, false, p.2⟩ := fun done p rest hP => by
    obtain ⟨g, rfl, hc⟩ := p3 (numb count 0 done) ⟨17, p.1, (count + ((0 + done.length : Nat) : Int)) % 16, false, p.2⟩ (numb count (0 + done.length + 1) rest) (by rw [hP, numb_append, numb])
    rw [numb_length, Nat.zero_add] at hc
    have := fr2 g rfl
    have := HZ.out
    exact ⟨g, rfl, by omega, hc⟩
  have HNB := Lib.hid hNB; have HMID := Lib.hid hmid
  have hlen2 : (numb count 0 PK).length = PK.length := hnl
  rw [hlen2] at p1 ⊢
  have HJ2 := Lib.hid (js_same HJ.out s2 (by simp))
  have S2 := Lib.hid (HS.out.trans_nil s2)
  have hA2 : A < w2.heap.size := heap_lt HJ2.out
  have hlls : Ls.length ≤ 20 := by omega
  clear hgd hcz hll o1 o2 s2 fr1 fr2 hpz hnl p3 hNB hmid hlen2 HJ HS HPK HR1
  go_wp2_with fail
  go_loopw [11, 12] (fun s11 s12 wr => ∃ (done : List (Bool × ByteArray)) (k : Nat) (t : ByteArray) (l : List ByteArray) (S : JS) (G : List ByteArray), Mid PK done Ls G S count k t l ∧ s12 = .int .i64 done.length ∧ IsJS wr A 17 S ∧ JOk S (300 * done.length) ∧
    wr.ownsRow 0 9 1 s11 G.length (strVals G) ∧ (∀ b, s11.ownBlock = some b → w2.heap.size ≤ b) ∧ Same [A] w2 wr) (fun _ s12 _ => PK.length - (intOf s12).toNat)
  case atStart => exact ⟨[], _, _, Ls, newS, [], HMID.out, rfl, HJ2.out, new_ok, World.ownsRow_nil _ _ _ _, fun b hb => (by cases hb), Same.refl _ _⟩
  case round =>
    obtain ⟨done, k, t, l, S, G, hmid, rfl, hj, hok, hown, hfr, hsm⟩ := hrel
    have hdl : done.length ≤ PK.length := by rw [hmid.pk]; simp
    have HJ := Lib.hid hj; have HK := Lib.hid hok; have HO := Lib.hid hown; have HF := Lib.hid hfr; have HS := Lib.hid hsm; have HM := Lib.hid hmid
    clear hj hok hown hfr hsm HMID HJ2
    cases hq : packG k t l with
    | nil =>
      obtain ⟨e1, e2, e3⟩ := hmid.done hq
      have hP := hmid.pk
      rw [hq, List.append_nil] at hP
      have hlt : ¬ (done.length : Int) < (PK.length : Int) := by rw [hP]; omega
      subst e1
      have hW := own_same HW.out HS.out (fun b hb => by have := HF1.out b hb; have := HZ.out; simp; omega)
      have HTX := Lib.hid (texts_quiet G u11 v1 wr (Reads.of_own HO.out) (Reads.of_own hW) (by omega))
      have hh := jheld_any HJ.out
      have hl := jlost_any HJ.out
      rw [e2] at hh
      rw [e3] at hl
      have HH := Lib.hid (fun m => qheld (w := wr) HJ.out m)
      have HL := Lib.hid (fun m => qlost (w := wr) HJ.out m)
      have E2 := Lib.hid e2; have E3 := Lib.hid e3
      clear hq hmid hP e2 e3 hW hh hl HM
      go_wp2_with (first
        | (go_at_call 14; (with_reducible refine HTX.out.mono ?_); rintro e w' ⟨rfl, m, rfl⟩)
        | (go_at_call 15; (with_reducible refine (HH.out _).mono ?_); rintro e w' ⟨rfl, rfl⟩; rw [E2.out])
        | (go_at_call 16; (with_reducible refine (HL.out _).mono ?_); rintro e w' ⟨rfl, rfl⟩; rw [E3.out])
        | (go_at_call 10; (with_reducible refine (awake_any _).mono ?_); rintro e w' ⟨rfl, hs⟩; have HA9 := Lib.hid hs; clear hs))
      go_ret
      refine ⟨rfl, (S2.out.trans HS.out (fun x hx hlt => by simp at hx; have := HA.out; omega)).trans_nil ?_⟩
      exact (Same.drewN _ _).trans_nil HA9.out
    | cons p rest =>
      obtain ⟨hbz, k', t', l', S', outs, hfd, hse, hmid'⟩ := hmid.next hq h0
      have hP := hmid.pk
      rw [hq] at hP
      have hlen : done.length < PK.length := by rw [hP]; simp
      have hlt : (done.length : Int) < (PK.length : Int) := by omega
      obtain ⟨g, rfl, hgA, hc⟩ := HNB.out done p rest hP
      obtain ⟨st, body⟩ := p
      simp only at hbz hfd hse hc
      have hrel' := hmid'.fol
      have hhz := (show Rel S' t' from .inr hrel').hold
      have hgl : (G ++ outs).length ≤ 20 := by
        have h9 := congrArg List.length hmid'.got
        rw [List.length_append] at h9
        omega
      obtain ⟨c, hcc⟩ : ∃ c, c = (count + (done.length : Int)) % 16 := ⟨_, rfl⟩
      rw [← hcc] at hfd hse hc
      have hc0 : 0 ≤ c ∧ c ≤ 15 := by omega
      have hf := jfeed_any 17 st c false body HJ.out HK.out (by omega)
      have hok' := feed_ok HK.out 17 17 st c false body
      rw [hfd] at hf hok'
      have hHZ : ¬ (4096 : Int) ≤ (S'.hold.size : Int) := by omega
      obtain ⟨d0, d1, d2, d3, d4⟩ := hc.same HS.out (by simp; omega)
      have HF2 := Lib.hid hf; have HC2 := Lib.hid hc; have HM2 := Lib.hid hmid'
      have HOK := Lib.hid (show JOk S' (300 * (done ++ [(st, body)]).length) from hok'.more (by rw [List.length_append]; simp; omega))
      have HTW := Lib.hid (feed_twin (S := S') (st := st) hc0.1 hc0.2 hbz hse)
      have HOT := Lib.hid (feed_other S')
      have hgl16 : (G.length + outs.length) * 16 ≤ 140737488355328 := by rw [List.length_append] at hgl; omega
      have hgl63 : G.length + outs.length ≤ maxLen := by rw [List.length_append] at hgl; unfold maxLen; omega
      have HGL := Lib.hid hgl
      clear hq hmid hP hf hok' hfd hse hmid' hrel' hc hcc hhz hbz hgl HM
      simp only at d0 d1 d2 d3 d4
      go_wp2_with fail
      (with_reducible refine HF2.out.mono ?_)
      rintro e w3 ⟨v3, rfl, n3, j3, s3⟩
      have HS3 := Lib.hid (HS.out.trans s3 (fun x hx _ => hx))
      have HO3 := Lib.hid (own_same HO.out s3 (fun b hb => by have := HF.out b hb; simp; omega))
      have HN3 := Lib.hid n3
      have HJ3 := Lib.hid (show IsJS w3 A 17 S' from j3)
      clear n3 j3 s3 HJ HO HS HF2 d0 d1 d2 d3 d4
      go_wp2_with (first | (at_builtin; refine wpList_append_src rfl (.tmp 68) (.tmp 69) 33 rfl 0 9 i0 _ 1 16 Try.underlying33 hi hz0 hz1 hz2 rfl (by decide) _ G.length (strVals G) rfl HO3.out _ outs.length (strVals outs) rfl (Reads.of_own HN3.out.1) (one_strs _) hgl63 hgl16 (Nat.zero_le _) ?_; intro v' w4 hown hgrow hat; have HOWN := Lib.hid hown; have HGR := Lib.hid hgrow; have HAT := Lib.hid hat; clear hown hgrow hat) | fail)
      have hgr : w3.grownBy w4 u11.ownBlock := HGR.out
      have hat : v'.ownBlock = u11.ownBlock ∨ v'.ownBlock = some w3.heap.size := HAT.out
      have own4 : w4.ownsRow 0 9 1 v' (G ++ outs).length (strVals (G ++ outs)) := by
        have h := HOWN.out
        rw [List.length_append]
        simpa [strVals] using h
      have HJ4 := Lib.hid (js_same HJ3.out (Same.of_grown hgr) (fun h => by have := HF.out A (by simpa using h); omega))
      have hs4 : Same [A] w2 w4 := HS3.out.trans (Same.of_grown hgr) (fun x hx hlt => by have := HF.out x (by simpa using hx); omega)
      have HS4 := Lib.hid hs4
      have HF4 := Lib.hid (show ∀ b, v'.ownBlock = some b → w2.heap.size ≤ b from fr_row hat HF.out HS3.out.size)
      have HO4 := Lib.hid own4
      clear hgr hat own4 hs4 HOWN HGR HAT HO3 HN3 HJ3 HS3 HF hgl16 hgl63
      (with_reducible refine (jheld_any HJ4.out).mono ?_)
      rintro e w5 ⟨rfl, rfl⟩
      go_wp2_with fail
      go_loopw [15] (fun s15 wv => ∃ m : Nat, m ≤ tw.length ∧ s15 = .int .i64 m ∧ IsJS wv A 17 S' ∧ wv.ownsRow 0 9 1 v' (G ++ outs).length (strVals (G ++ outs)) ∧ Same [A] w2 wv) (fun s15 _ => tw.length - (intOf s15).toNat)
      case atStart => exact ⟨0, by omega, rfl, HJ4.out, HO4.out, HS4.out⟩
      case round =>
        obtain ⟨m, hm, rfl, hj, hown, hsm⟩ := hrel
        have HJ5 := Lib.hid hj; have HO5 := Lib.hid hown; have HS5 := Lib.hid hsm
        clear hj hown hsm HJ4 HO4 HS4
        by_cases hm1 : m < tw.length
        · have hm2 : (m : Int) < (tw.length : Int) := by omega
          obtain ⟨a, rfl, hsp, e0⟩ := HT.out m hm1
          obtain ⟨ga, oa, sp⟩ := a
          simp only at hsp e0
          subst hsp
          have hga : ga < A := by have h9 : ga < w.heap.size := World.block_lt_of_cell? w _ e0; have := HA.out; omega
          have e5 := HS5.out.cell (S2.out.cell e0 (by simp)) (by show ga ∉ [A]; simp; omega)
          obtain ⟨x, hx⟩ : ∃ x, x = tw[m] := ⟨_, rfl⟩
          rw [← hx] at e5
          clear hx e0
          by_cases hxd : x = (done.length : Int)
          · have hne : (x != (done.length : Int)) = false := by simp; exact hxd
            obtain ⟨d0, d1, d2, d3, d4⟩ := HC2.out.same HS5.out (by simp; omega)
            have hf1 := jfeed_any 17 st c false body HJ5.out HOK.out (by rw [List.length_append]; simp; omega)
            rw [HTW.out] at hf1
            have HF1' := Lib.hid hf1
            simp only at d0 d1 d2 d3 d4
            clear hf1 hxd
            go_wp2_with fail
            (with_reducible refine HF1'.out.mono ?_)
            rintro e w6 ⟨v6, rfl, n6, j6, s6⟩
            obtain ⟨b6, k6, rfl⟩ := new_strs_none n6
            have hj6 : IsJS w6 A 17 S' := j6
            have hf2 := jfeed_any 18 true 5 false ⟨#[0, 97, 98, 99]⟩ hj6 HOK.out (by rw [List.length_append]; simp; omega)
            rw [HOT.out] at hf2
            have HF2' := Lib.hid hf2
            have HS6 := Lib.hid (HS5.out.trans s6 (fun x hx _ => hx))
            have HO6 := Lib.hid (own_same HO5.out s6 (fun b hb => by have := HF4.out b hb; simp; omega))
            clear hf2 n6 j6 s6 hj6 HF1' HJ5 HO5 HS5 d0 d1 d2 d3 d4 e5
            go_wp2_with fail
            (with_reducible refine HF2'.out.mono ?_)
            rintro e w7 ⟨v7, rfl, n7, j7, s7⟩
            obtain ⟨b7, k7, rfl⟩ := new_strs_none n7
            have HJ7 := Lib.hid (show IsJS w7 A 17 S' from j7)
            have HS7 := Lib.hid (HS6.out.trans s7 (fun x hx _ => hx))
            have HO7 := Lib.hid (own_same HO6.out s7 (fun b hb => by have := HF4.out b hb; simp; omega))
            clear n7 j7 s7 HF2' HS6 HO6
            go_wp2_with fail
            go_roundw
            case rel => exact ⟨m + 1, by omega, by go_num, HJ7.out, HO7.out, HS7.out⟩
            case measure => simp [intOf]; omega
          · have hne : (x != (done.length : Int)) = true := by simp; exact hxd
            clear hxd
            go_wp2_with fail
            go_roundw
            case rel => exact ⟨m + 1, by omega, by go_num, HJ5.out, HO5.out, HS5.out⟩
            case measure => simp [intOf]; omega
        · have hm2 : ¬ (m : Int) < (tw.length : Int) := by omega
          go_wp2_with fail
          go_roundw
          case rel => exact ⟨done ++ [(st, body)], k', t', l', S', G ++ outs, HM2.out, by simp, HJ5.out, HOK.out, HO5.out, HF4.out, HS5.out⟩
          case measure => simp [intOf]; omega

theorem joinerBack_any (v : Value) (bodies : List ByteArray) (count : Int) (vt : Value) (tw : List Int) (w : World) (hr : StrsAt w v bodies) (ht : NumsAt w vt tw) :
    Calls Try.prog 4 #[v, .int .i64 count, vt] w (AwakePost w) := by
  by_cases h : fewG bodies = false ∨ count < 0 ∨ 15 < count ∨ 100 < tw.length
  · exact back_out bodies v count tw vt w hr ht h
  · exact back_ok bodies v count tw vt w hr ht (by cases hf : fewG bodies with | true => rfl | false => exact absurd (.inl hf) h) (by omega) (by omega) (by omega)

end Go.Proofs.Ytpnbhgmcfooppaa
