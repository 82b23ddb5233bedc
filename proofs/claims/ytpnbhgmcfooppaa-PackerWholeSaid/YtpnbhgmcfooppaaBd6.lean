/- The sections of bodies, and their packets with counts (packed). Conditions: up to 20 bodies, of up to 1400 bytes; the count is 0 to 15. -/
import Derived.Test.YtpnbhgmcfooppaaBd5
namespace Go.Proofs.Ytpnbhgmcfooppaa
open Go.RowKit
set_option linter.unusedSimpArgs false
set_option linter.unusedVariables false

theorem pack_len : ∀ (k : Nat) (t : ByteArray) (l : List ByteArray), (packG k t l).length ≤ (t ++ catL l).size
  | 0, t, l => Nat.zero_le _
  | k + 1, t, l => by
    by_cases h0 : (t ++ catL l).size = 0
    · rw [pack_nil _ h0]; exact Nat.zero_le _
    · by_cases h1 : 183 ≤ t.size
      · rw [pack_rest k h0 h1, List.length_cons]
        have ih := pack_len k (t.extract (min t.size 184) t.size) l
        rw [ByteArray.size_append, ByteArray.size_extract] at ih
        rw [ByteArray.size_append]
        omega
      · by_cases h2 : t.size ≠ 0 ∧ l = []
        · obtain ⟨h2, rfl⟩ := h2
          rw [pack_last k h2 h1, ByteArray.size_append, List.length_cons, List.length_nil]
          omega
        · rw [pack_begin k h0 h1 h2, List.length_cons]
          have hsz : (t ++ catL l).size = t.size + (catL l).size := ByteArray.size_append
          obtain ⟨n, hn⟩ : ∃ n, n = min 183 (t ++ catL l).size := ⟨_, rfl⟩
          rw [← hn]
          have ih := pack_len k (advG l (n - t.size)).1 (advG l (n - t.size)).2
          rw [adv_cat l (n - t.size) (by omega), ByteArray.size_extract] at ih
          omega

def PkdPost (w : World) (bodies : List ByteArray) (count : Int) (e : Ending) (w' : World) : Prop :=
  ∃ Ls v1 v2, e = .returned (.tuple #[v1, v2]) ∧ (∀ x ∈ Ls, Good x) ∧ (catL Ls).size ≤ 4096 * bodies.length ∧ Ls.length = bodies.length ∧ w'.ownsRow 0 9 1 v1 Ls.length (strVals Ls) ∧
    w'.ownsRow 0 32 5 v2 (numb count 0 (packG (catL Ls).size ⟨#[]⟩ Ls)).length (pdVals (numb count 0 (packG (catL Ls).size ⟨#[]⟩ Ls))) ∧ Same [] w w' ∧ (∀ k, v1.ownBlock = some k → w.heap.size ≤ k) ∧ (∀ k, v2.ownBlock = some k → w.heap.size ≤ k)

theorem own_slice {w : World} {b e n size : Nat} {v : Value} {ys : List Value} (h : w.ownsRow b e size v n ys) :
    ∃ ad c, v = .slice ad n c ∧ n ≤ c ∧ c ≤ maxLen ∧ ∀ i, i < n → ∃ g, ad = some ⟨g, 0, none⟩ ∧ ∀ (j : Nat) (u : Value), ys[j]? = some u → w.cell? ⟨g, j, none⟩ = some u := by
  by_cases h0 : n = 0
  · rcases h.2 with ⟨rfl, _⟩ | ⟨g, cap, cur, rfl, _, hg, hnc, hcm, hcs, ht⟩
    · exact ⟨none, 0, by rw [h0], by omega, Nat.zero_le _, fun i hi => by omega⟩
    · exact ⟨_, cap, rfl, hnc, hcm, fun i hi => by omega⟩
  · obtain ⟨g, c, rfl, h1, h2, h3⟩ := own_cells h h0
    exact ⟨_, c, rfl, h1, h2, fun i hi => ⟨g, rfl, h3⟩⟩

set_option maxRecDepth 100000 in
set_option maxHeartbeats 4000000 in
theorem packed_any (bodies : List ByteArray) (v : Value) (count : Int) (w : World) (hr : StrsAt w v bodies) (hf : ∀ x ∈ bodies, x.size ≤ 1400) (hl : bodies.length ≤ 20) (h0 : 0 ≤ count) (h1 : count ≤ 15) :
    Calls Try.prog 18 #[v, .int .i64 count] w (PkdPost w bodies count) := by
  obtain ⟨i0, hi, hz0, hz1, hz2⟩ := info_parts Try.infoS
  obtain ⟨j0, hj, hy0, hy1, hy2⟩ := info_parts Try.infoP
  obtain ⟨ad, c, rfl, hc1, hc2, hc3⟩ := hr
  have HC := Lib.hid hc3; have HFW := Lib.hid hf
  clear hc3 hf
  go_enter Try.func18, Try.ntmps18
  go_wp2_with fail
  obtain ⟨w0, rfl⟩ : ∃ w0 : World, w0 = w := ⟨_, rfl⟩
  go_loopw [6, 7] (fun s6 s7 wr => ∃ pre ls Lp : List ByteArray, bodies = pre ++ ls ∧ s7 = .int .i64 pre.length ∧ Lp.length = pre.length ∧ (∀ x ∈ Lp, Good x) ∧ (catL Lp).size ≤ 4096 * pre.length ∧ wr.ownsRow 0 9 1 s6 Lp.length (strVals Lp) ∧ (∀ k, s6.ownBlock = some k → w0.heap.size ≤ k) ∧ Same [] w0 wr) (fun _ s7 _ => bodies.length - (intOf s7).toNat)
  case atStart => exact ⟨[], bodies, [], rfl, rfl, rfl, (fun x hx => nomatch hx), Nat.le_refl _, World.ownsRow_nil _ _ _ _, fun b hb => (by cases hb), Same.refl _ _⟩
  case round =>
    obtain ⟨pre, ls, Lp, hL, rfl, hlp, hgd, hsz, hown, hfr, hsm⟩ := hrel
    have HG := Lib.hid hgd; have HO := Lib.hid hown; have HF := Lib.hid hfr; have HS := Lib.hid hsm
    have hpl : pre.length ≤ bodies.length := by rw [hL]; simp
    clear hgd hown hfr hsm
    cases ls with
    | cons x ls =>
      have hlen : pre.length < bodies.length := by rw [hL]; simp
      have hlt : (pre.length : Int) < (bodies.length : Int) := by omega
      obtain ⟨g, o, rfl, hx0⟩ := suffix_cell HC.out hL
      have hx := HS.out.cell hx0 (by simp)
      have hxz := HFW.out x (by rw [hL]; simp)
      have HL := Lib.hid hL; have HLP := Lib.hid hlp; have HSZ := Lib.hid hsz
      have hlen16 : (Lp.length + 1) * 16 ≤ 140737488355328 := by omega
      have hl63 : Lp.length + 1 ≤ maxLen := by unfold maxLen; omega
      have HM := Lib.hid (fun W => made_any x W (by omega))
      clear hL hx0 hlp hsz
      go_wp2_with fail
      (with_reducible refine (HM.out _).mono ?_)
      rintro e w2 ⟨t4, ht4, he, s2⟩
      have hgm := good_made x t4 ht4 (by omega)
      have he : e = .returned (.string (hdrS x.size ++ x ++ t4)) := he
      have hmz := hgm.size
      generalize hdrS x.size ++ x ++ t4 = X at *
      subst he
      have HGM := Lib.hid hgm
      have S2 := Lib.hid (HS.out.trans_nil s2); have HO2 := Lib.hid (own_same HO.out s2 (fun _ _ => by simp))
      clear s2 hgm hx
      go_wp2_with (first | (at_builtin; refine wpList_append_src rfl (.tmp 17) (.tmp 23) 33 rfl 0 9 i0 _ 1 16 Try.underlying33 hi hz0 hz1 hz2 rfl (by decide) _ Lp.length (strVals Lp) rfl (by exact HO2.out.alloc _) _ 1 [.string X] rfl (by exact Reads.of_own (row_new w2 #[.string X] 9 1 rfl (by decide))) (by intro u hu; simp at hu; subst hu; rfl) hl63 hlen16 (Nat.zero_le _) ?_; intro v' w4 hown hgrow hat; have HOWN := Lib.hid hown; have HGR := Lib.hid hgrow; have HAT := Lib.hid hat; clear hown hgrow hat) | fail)
      go_roundw
      case rel =>
        refine ⟨pre ++ [x], ls, Lp ++ [X], by rw [HL.out]; simp, by simp, by simp [HLP.out], ?_, ?_, ?_, fr_next HAT.out HF.out (S2.out.alloc _), sm_next HGR.out HF.out (S2.out.alloc _)⟩
        · intro y hy
          rcases List.mem_append.1 hy with h | h
          · exact HG.out y h
          · rw [List.mem_singleton.1 h]; exact HGM.out
        · rw [catL_append, catL_one, ByteArray.size_append, List.length_append]
          have := HSZ.out; simp only [List.length_cons, List.length_nil]; omega
        · have := HOWN.out
          rw [List.length_append]
          simpa [strVals] using this
      case measure => simp [intOf]; omega
    | nil =>
      have hL2 : bodies = pre := by rw [hL]; simp
      subst hL2
      have hlt : ¬ (bodies.length : Int) < (bodies.length : Int) := by omega
      have HB := Lib.hid (fun W (h : StrsAt W u6 Lp) => bodies_any Lp u6 W h (by omega) (by omega))
      clear hL
      go_wp2_with fail
      (with_reducible refine (HB.out _ (strs_of_own HO.out)).mono ?_)
      rintro e w2 ⟨vb, rfl, ob, fb, s2⟩
      have HV := Lib.hid ob
      obtain ⟨adb, cb, rfl, hb1, hb2, hb3⟩ := own_slice ob
      have HBC := Lib.hid hb3
      have hpz := pack_len (catL Lp).size ⟨#[]⟩ Lp
      rw [nil_append] at hpz
      have HPE := Lib.hid (show packG (catL Lp).size ⟨#[]⟩ Lp = packG (catL Lp).size ⟨#[]⟩ Lp from rfl)
      have hpn : (packG (catL Lp).size ⟨#[]⟩ Lp).length ≤ 90000 := by omega
      have HSZ := Lib.hid hsz; have HLP := Lib.hid hlp
      have S2 := Lib.hid (HS.out.trans_nil s2); have HO2 := Lib.hid (own_same HO.out s2 (fun _ _ => by simp))
      generalize hPK : packG (catL Lp).size ⟨#[]⟩ Lp = PK at hpn hb1 HBC ⊢
      have HPK := Lib.hid hPK
      clear hb3 hpz hPK ob fb s2 HV HPE hsz hlp HB HO HS
      go_wp2_with fail
      go_loopw [9, 10] (fun s9 s10 wv => ∃ done todo : List (Bool × ByteArray), PK = done ++ todo ∧ s10 = .int .i64 done.length ∧ wv.ownsRow 0 32 5 s9 (numb count 0 done).length (pdVals (numb count 0 done)) ∧ (∀ k, s9.ownBlock = some k → w2.heap.size ≤ k) ∧ Same [] w2 wv) (fun _ s10 _ => PK.length - (intOf s10).toNat)
      case atStart => exact ⟨[], PK, rfl, rfl, World.ownsRow_nil _ _ _ _, fun b hb => (by cases hb), Same.refl _ _⟩
      case round =>
        obtain ⟨done, todo, hP, rfl, hown, hfr, hsm⟩ := hrel
        have HO := Lib.hid hown; have HF3 := Lib.hid hfr; have HS3 := Lib.hid hsm; have HP := Lib.hid hP
        have hdl : done.length ≤ PK.length := by rw [hP]; simp
        clear hown hfr hsm
        cases todo with
        | cons q todo =>
          have hlen : done.length < PK.length := by rw [hP]; simp
          have hlt2 : (done.length : Int) < (PK.length : Int) := by omega
          obtain ⟨g, rfl, hc⟩ := HBC.out done.length hlen
          have hv : ∀ j, j < 5 → (pkVals PK)[done.length * 5 + j]? = (pkV q)[j]? := fun j hj => by
            have hr := row5 (L := PK.map pkV) (fun x hx => by
              obtain ⟨p, _, rfl⟩ := List.mem_map.1 hx
              rfl) done.length j hj
            rw [List.getElem?_map, hP, List.getElem?_append_right (Nat.le_refl _), Nat.sub_self] at hr
            rw [show pkVals PK = (PK.map pkV).flatten from List.flatMap_def, hP]
            exact hr
          have d1 := HS3.out.cell (hc _ _ (hv 1 (by omega))) (by simp)
          have d4 := HS3.out.cell (hc _ _ (hv 4 (by omega))) (by simp)
          obtain ⟨st, body⟩ := q
          simp only at d1 d4
          have hnl := numb_length count 0 done
          have hlen48 : ((numb count 0 done).length + 1) * 48 ≤ 140737488355328 := by omega
          have hl63 : (numb count 0 done).length + 1 ≤ maxLen := by unfold maxLen; omega
          have hw1 : IntKind.i64.wrap (count + (done.length : Int)) = count + (done.length : Int) := IntWalk.i64_in _ (by omega)
          have hnn : 0 ≤ count + (done.length : Int) := by omega
          have hrem : (count + (done.length : Int)).tmod 16 = (count + (done.length : Int)) % 16 := Int.tmod_eq_emod_of_nonneg hnn
          clear hv hc hP
          go_wp2_with fail
          go_region_law (refine step_append_src rfl (.tmp 33) (.tmp 49) 22 rfl 0 32 j0 _ 5 48 Try.underlying22 hj hy0 hy1 hy2 pkZ_cells (by decide) _ (numb count 0 done).length (pdVals (numb count 0 done)) rfl (by exact own_same (S := []) HO.out (by repeat (first | exact Same.refl _ _ | refine Same.drew ?_ | refine Same.alloc ?_ _)) (fun _ _ h => nomatch h)) _ 1 (pdV ⟨17, st, (count + (done.length : Int)) % 16, false, body⟩) rfl (by exact reads_pd _ ⟨17, st, (count + (done.length : Int)) % 16, false, body⟩) (one_pd _) hl63 hlen48 (Nat.zero_le _) ?_; intro v' w4 hown hgrow hat; have HOWN := Lib.hid hown; have HGR := Lib.hid hgrow; have HAT := Lib.hid hat; clear hown hgrow hat)
          all_goals
            go_wp2_with fail
            go_roundw
            case rel =>
              refine ⟨done ++ [(st, body)], todo, by rw [HP.out]; simp, by simp, ?_, fr_next HAT.out HF3.out ?_, sm_next HGR.out HF3.out ?_⟩
              · rw [numb_snoc, Nat.zero_add, List.length_append, ← pdVals_snoc]; exact HOWN.out
              all_goals repeat (first | exact HS3.out | refine Same.drew ?_ | refine Same.alloc ?_ _)
            case measure => simp [intOf]; omega
        | nil =>
          have hP2 : PK = done := by rw [hP]; simp
          subst hP2
          have hlt2 : ¬ (PK.length : Int) < (PK.length : Int) := by omega
          clear hP
          go_wp2_with fail
          go_ret2
          refine ⟨Lp, _, _, rfl, HG.out, HSZ.out, HLP.out, own_same HO2.out HS3.out (fun _ _ => by simp), ?_, S2.out.trans_nil HS3.out, HF.out, fun k hk => Nat.le_trans S2.out.size (HF3.out k hk)⟩
          rw [HPK.out]; exact HO.out

end Go.Proofs.Ytpnbhgmcfooppaa
