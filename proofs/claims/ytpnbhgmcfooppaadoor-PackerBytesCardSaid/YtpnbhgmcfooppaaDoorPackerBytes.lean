/- The walk of the law PackerBytes: whatever packets and numbers, it answers true. Condition: the table 'widths' lies as the program's text lays it. -/
import Derived.Test.YtpnbhgmcfooppaaDoorPkb1
namespace Go.Proofs.YtpnbhgmcfooppaaDoor
open Go.RowKit
set_option linter.unusedSimpArgs false
set_option linter.unusedVariables false

theorem own_form {w : World} {base e size n : Nat} {v : Value} {xs : List Value} (h : w.ownsRow base e size v n xs) : ∃ ad c, v = .slice ad n c := by
  rcases h.2 with ⟨rfl, h0⟩ | ⟨g, cap, cur, rfl, _⟩
  · exact ⟨none, 0, by rw [h0]⟩
  · exact ⟨_, _, rfl⟩
theorem pkts_same {A C : World} {v : Value} {l : List PkD} (h : PktsAt A v l) (hs : Same [] A C) : PktsAt C v l := by
  obtain ⟨ad, c, rfl, h1, h2, h3⟩ := h
  exact ⟨ad, c, rfl, h1, h2, fun i hi => by obtain ⟨a, ha, hsp, k0, k1, k2, k3, k4⟩ := h3 i hi; exact ⟨a, ha, hsp, hs.cell k0 (by simp), hs.cell k1 (by simp), hs.cell k2 (by simp), hs.cell k3 (by simp), hs.cell k4 (by simp)⟩⟩
theorem nums_same {A C : World} {v : Value} {l : List Int} (h : NumsAt A v l) (hs : Same [] A C) : NumsAt C v l := by
  obtain ⟨ad, c, rfl, h1, h2, h3⟩ := h
  exact ⟨ad, c, rfl, h1, h2, fun i hi => by obtain ⟨a, ha, hsp, k0⟩ := h3 i hi; exact ⟨a, ha, hsp, hs.cell k0 (by simp)⟩⟩
set_option maxRecDepth 100000 in
set_option maxHeartbeats 16000000 in
theorem packerBytes_any (v : Value) (ps : List PkD) (vm : Value) (xs : List Int) (w : World) (hp : PktsAt w v ps) (hr : NumsAt w vm xs) (hT : Tab w) :
    Calls Tryd.prog 5 #[v, vm] w (AwakePost w) := by
  obtain ⟨i0, hi, hz0, hz1, hz2⟩ := info_parts Tryd.infoX
  obtain ⟨ad, c, rfl, hc1, hc2, hc3⟩ := id hp
  obtain ⟨adm, cm, rfl, hm1, hm2, hm3⟩ := id hr
  have HC := Lib.hid hc3; have HM := Lib.hid hm3; have HT := Lib.hid hT; have HP := Lib.hid hp; have HR := Lib.hid hr
  have HA := Lib.hid (fun W => awake15 W)
  clear hc3 hm3 hT hp hr
  by_cases hout : (10 : Int) < (ps.length : Int) ∨ (¬ (10 : Int) < (ps.length : Int) ∧ (20 : Int) < (xs.length : Int))
  · rcases hout with h | ⟨h, h1⟩
    all_goals
      go_enter Tryd.func5, Tryd.ntmps5
      go_wp2_with fail
      (with_reducible refine (HA.out _).mono ?_)
      rintro e w9 ⟨rfl, s9⟩
      have S9 := Lib.hid s9
      clear s9
      go_wp2_with fail
      go_ret
      exact ⟨rfl, S9.out⟩
  · have g1 : ¬ (10 : Int) < (ps.length : Int) := fun h => hout (.inl h)
    have g2 : ¬ (20 : Int) < (xs.length : Int) := fun h => hout (.inr ⟨g1, h⟩)
    have hp10 : ps.length ≤ 10 := by omega
    have hx20 : xs.length ≤ 20 := by omega
    clear hout
    go_enter Tryd.func5, Tryd.ntmps5
    go_wp2_with fail
    go_loopw [7, 5, 6] (fun i u e wr => ∃ k : Nat, k ≤ ps.length ∧ i = .int .i64 k ∧ u = .string (catP (okP (ps.take k))) ∧ e = .int .i64 (errP (ps.take k)) ∧ Same [] w wr) (fun i _ _ _ => ps.length - (intOf i).toNat)
    case atStart => exact ⟨0, Nat.zero_le _, rfl, rfl, rfl, Same.refl _ _⟩
    case round =>
      obtain ⟨k, hk, rfl, hu, he, hsm⟩ := hrel
      have HSM := Lib.hid hsm
      have hw2 : (catP (okP (ps.take k))).size ≤ 1880 := by
        rw [size_catP _ (okP_ok _)]
        have := okP_len (ps.take k)
        rw [List.length_take] at this
        omega
      obtain ⟨wt, hwt⟩ : ∃ wt, wt = catP (okP (ps.take k)) := ⟨_, rfl⟩
      obtain ⟨e0, he0⟩ : ∃ e0, e0 = errP (ps.take k) := ⟨_, rfl⟩
      rw [← hwt] at hu hw2
      rw [← he0] at he
      subst hu he
      have HW := Lib.hid hwt; have HE := Lib.hid he0
      clear hsm hwt he0
      by_cases h1 : k < ps.length
      · have h1i : (k : Int) < (ps.length : Int) := by omega
        obtain ⟨a', rfl, hsp, q0, q1, q2, q3, q4⟩ := HC.out k h1
        obtain ⟨g, o, sp⟩ := a'
        simp only at hsp q0 q1 q2 q3 q4
        subst hsp
        have htk := List.take_succ_eq_append_getElem h1
        obtain ⟨q, hq⟩ : ∃ q, q = ps[k] := ⟨_, rfl⟩
        rw [← hq] at q0 q1 q2 q3 q4 htk
        have hes := errP_snoc (ps.take k) q
        have hos := okP_snoc (ps.take k) q
        rw [← htk, ← HE.out] at hes hos
        have hck0 : chkP q = chkG q.pid q.c q.body := rfl
        have hcp1 : catP (okP (ps.take k) ++ [q]) = catP (okP (ps.take k)) ++ encP q := by rw [catP_append, catP_one]
        have hep : encP q = encG q.pid.toNat q.st q.c.toNat q.bad q.body := rfl
        obtain ⟨ck, hck⟩ : ∃ ck, ck = chkP q := ⟨_, rfl⟩
        rw [← hck] at hes hos hck0
        obtain ⟨pid, st, cc, bad, body⟩ := q
        simp only at q0 q1 q2 q3 q4 hck0 hep
        have hcc := fun W => rpcheck_any pid st cc bad body W
        unfold NumPost at hcc
        rw [← hck0] at hcc
        have d0 := HSM.out.cell q0 (by simp); have d1 := HSM.out.cell q1 (by simp); have d2 := HSM.out.cell q2 (by simp); have d3 := HSM.out.cell q3 (by simp); have d4 := HSM.out.cell q4 (by simp)
        have Q0 := Lib.hid q0; have Q1 := Lib.hid q1; have Q2 := Lib.hid q2; have Q3 := Lib.hid q3; have Q4 := Lib.hid q4
        have HCC := Lib.hid hcc
        have HPL := Lib.hid (fun W => plain14 pid st cc bad body W)
        by_cases h3 : 300 < body.size
        · have h3i : (300 : Int) < (body.size : Int) := by omega
          clear q0 q1 q2 q3 q4 hq htk hes hos hck0 hcp1 hep hck hcc
          go_wp2_with fail
          (with_reducible refine (HA.out _).mono ?_)
          rintro e w9 ⟨rfl, s9⟩
          have S9 := Lib.hid (HSM.out.trans_nil s9)
          clear s9
          go_wp2_with fail
          go_ret
          exact ⟨rfl, S9.out⟩
        · have h3i : ¬ (300 : Int) < (body.size : Int) := by omega
          by_cases h4 : e0 = 0
          · subst h4
            rw [if_pos rfl] at hes
            by_cases h5 : ck = 0
            · rw [if_pos ⟨rfl, h5⟩] at hos
              subst h5
              have hrg := chk_cases pid cc body
              rw [← hck0] at hrg
              have hrg2 : 0 ≤ pid ∧ pid < 8192 ∧ 0 ≤ cc ∧ cc ≤ 15 ∧ (body.size : Int) ≤ 184 := by
                rcases hrg with ⟨_, h⟩ | ⟨_, _, h⟩ | ⟨_, _, _, h⟩ | ⟨_, _, _, _, h⟩ | ⟨_, _, _, _, _, h⟩ | ⟨h1, h2, h3, h4, h5, _⟩
                · exact absurd h (by decide)
                · exact absurd h (by decide)
                · exact absurd h (by decide)
                · exact absurd h (by decide)
                · exact absurd h (by decide)
                · exact ⟨h1, h2, h3, h4, h5⟩
              obtain ⟨p1, p2, p3, p4, p5⟩ := hrg2
              obtain ⟨P, rfl⟩ : ∃ P : Nat, pid = (P : Int) := ⟨pid.toNat, by omega⟩
              obtain ⟨C, rfl⟩ : ∃ C : Nat, cc = (C : Int) := ⟨cc.toNat, by omega⟩
              have hby := fun W => pbytes_any P st C bad body W (by omega) (by omega) (by omega)
              have hsz : (encG P st C bad body).size = 188 := size_enc _ _ _ _ _ (by omega)
              have hnx : wt ++ encG P st C bad body = catP (okP (ps.take (k + 1))) := by rw [hos, hcp1, ← HW.out, hep]; rfl
              obtain ⟨z, hz⟩ : ∃ z, z = encG P st C bad body := ⟨_, rfl⟩
              rw [← hz] at hby hsz hnx
              have HBY := Lib.hid hby; have HNX := Lib.hid hnx; have HES := Lib.hid hes
              clear q0 q1 q2 q3 q4 hq htk hes hos hck0 hcp1 hep hck hcc hrg hby hnx hz
              go_wp2_with fail
              (with_reducible refine (HPL.out _).mono ?_)
              rintro e w2 ⟨rfl, s2⟩
              have S2 := Lib.hid (HSM.out.trans_nil s2)
              clear s2
              go_wp2_with fail
              (with_reducible refine (HCC.out _).mono ?_)
              rintro e w3 ⟨rfl, s3⟩
              have S3 := Lib.hid (S2.out.trans_nil s3)
              clear s3 d0 d1 d2 d3 d4
              have d0 := S3.out.cell Q0.out (by simp); have d1 := S3.out.cell Q1.out (by simp); have d2 := S3.out.cell Q2.out (by simp); have d3 := S3.out.cell Q3.out (by simp); have d4 := S3.out.cell Q4.out (by simp)
              go_wp2_with fail
              (with_reducible refine (HPL.out _).mono ?_)
              rintro e w4 ⟨rfl, s4⟩
              have S4 := Lib.hid (S3.out.trans_nil s4)
              clear s4 d0 d1 d2 d3 d4
              go_wp2_with fail
              (with_reducible refine (HBY.out _).mono ?_)
              rintro e w5 ⟨rfl, s5⟩
              have S5 := Lib.hid (S4.out.trans_nil s5)
              clear s5
              go_wp2_with fail
              go_roundw
              case rel => exact ⟨k + 1, by omega, by go_num, by rw [HNX.out], by rw [HES.out], S5.out⟩
              case measure => simp [intOf]; omega
            · rw [if_neg (fun h => h5 h.2)] at hos
              have h5i : (ck == 0) = false := by simpa using h5
              have h5j : (ck != 0) = true := by simpa using h5
              have hnx : wt = catP (okP (ps.take (k + 1))) := by rw [hos]; exact HW.out
              have HNX := Lib.hid hnx; have HES := Lib.hid hes
              clear q0 q1 q2 q3 q4 hq htk hes hos hck0 hcp1 hep hck hcc hnx
              go_wp2_with fail
              (with_reducible refine (HPL.out _).mono ?_)
              rintro e w2 ⟨rfl, s2⟩
              have S2 := Lib.hid (HSM.out.trans_nil s2)
              clear s2
              go_wp2_with fail
              (with_reducible refine (HCC.out _).mono ?_)
              rintro e w3 ⟨rfl, s3⟩
              have S3 := Lib.hid (S2.out.trans_nil s3)
              clear s3 d0 d1 d2 d3 d4
              go_wp2_with fail
              go_roundw
              case rel => exact ⟨k + 1, by omega, by go_num, by rw [← HNX.out], by rw [HES.out], S3.out⟩
              case measure => simp [intOf]; omega
          · rw [if_neg h4] at hes
            rw [if_neg (fun h => h4 h.1)] at hos
            have h4i : (e0 == 0) = false := by simpa using h4
            have hnx : wt = catP (okP (ps.take (k + 1))) := by rw [hos]; exact HW.out
            have HNX := Lib.hid hnx; have HES := Lib.hid hes
            clear q0 q1 q2 q3 q4 hq htk hes hos hck0 hcp1 hep hck hcc hnx
            go_wp2_with fail
            (with_reducible refine (HPL.out _).mono ?_)
            rintro e w2 ⟨rfl, s2⟩
            have S2 := Lib.hid (HSM.out.trans_nil s2)
            clear s2
            go_wp2_with fail
            (with_reducible refine (HCC.out _).mono ?_)
            rintro e w3 ⟨rfl, s3⟩
            have S3 := Lib.hid (S2.out.trans_nil s3)
            clear s3 d0 d1 d2 d3 d4
            go_wp2_with fail
            go_roundw
            case rel => exact ⟨k + 1, by omega, by go_num, by rw [← HNX.out], by rw [HES.out], S3.out⟩
            case measure => simp [intOf]; omega
      · obtain rfl : k = ps.length := by omega
        have h1i : ¬ (ps.length : Int) < (ps.length : Int) := by omega
        have hwv := HW.out
        have hev := HE.out
        rw [List.take_length] at hwv hev
        obtain ⟨z, hz⟩ : ∃ z, z = bytesS ps := ⟨_, rfl⟩
        have hbf := fun W (h : Same [] w W) => pbytes_fn ps _ W (pkts_same HP.out h) (HT.out.same h (by simp)) (by omega)
        rw [← hz, ← hev] at hbf
        have HBF := Lib.hid hbf
        have hzz : (z.toList != z.toList) = false := by simp
        have hcase : (e0 = 0 ∧ wt = z) ∨ (e0 ≠ 0 ∧ z = ⟨#[]⟩) := by
          by_cases h4 : e0 = 0
          · exact .inl ⟨h4, by rw [hz, hwv]; unfold bytesS; rw [← hev, if_pos h4]⟩
          · exact .inr ⟨h4, by rw [hz]; unfold bytesS; rw [← hev, if_neg h4]⟩
        clear hwv hev hz hbf h1
        rcases hcase with ⟨rfl, rfl⟩ | ⟨h4, rfl⟩
        rotate_left
        all_goals
          try have h4i : (e0 != 0) = true := by simpa using h4
          go_wp2_with fail
          (with_reducible refine (HBF.out _ HSM.out).mono ?_)
          rintro e w2 ⟨rfl, s2⟩
          have S2 := Lib.hid (HSM.out.trans_nil s2)
          clear s2
          go_wp2_with fail
          go_loopw [14, 12, 13] (fun i t b wr => ∃ k : Nat, k ≤ xs.length ∧ i = .int .i64 k ∧ b = .bool (allB (xs.take k)) ∧ wr.ownsRow 0 9 1 t (zsL (mayL (xs.take k))).length (strVals (zsL (mayL (xs.take k)))) ∧ (∀ b, t.ownBlock = some b → w.heap.size ≤ b) ∧ Same [] w wr) (fun i _ _ _ => xs.length - (intOf i).toNat)
          case atStart => exact ⟨0, Nat.zero_le _, rfl, rfl, World.ownsRow_nil _ _ _ _, fun b hb => (by cases hb), S2.out⟩
          case round =>
            clear HSM S2
            obtain ⟨k, hk, rfl, hb, hown, hfr, hsm⟩ := hrel
            have HO := Lib.hid hown; have HF := Lib.hid hfr; have HSM := Lib.hid hsm
            obtain ⟨bb, hbb⟩ : ∃ bb, bb = allB (xs.take k) := ⟨_, rfl⟩
            rw [← hbb] at hb
            subst hb
            have HBB := Lib.hid hbb
            have hlen : (zsL (mayL (xs.take k))).length ≤ 20 := by
              rw [zsL_length]
              have := mayL_len (xs.take k)
              rw [List.length_take] at this
              omega
            clear hown hfr hsm hbb
            by_cases h1 : k < xs.length
            · have h1i : (k : Int) < (xs.length : Int) := by omega
              obtain ⟨a', rfl, hsp, q0⟩ := HM.out k h1
              obtain ⟨g, o, sp⟩ := a'
              simp only at hsp q0
              subst hsp
              have htk := List.take_succ_eq_append_getElem h1
              obtain ⟨x, hx⟩ : ∃ x, x = xs[k] := ⟨_, rfl⟩
              rw [← hx] at q0 htk
              have d0 := HSM.out.cell q0 (by simp)
              have HTK := Lib.hid htk
              clear q0 hx htk
              have hxc : (1500 < x ∧ x ≤ 4096) ∨ (x < 12) ∨ (¬ x < 12 ∧ 4096 < x) ∨ (12 ≤ x ∧ x ≤ 1500) := by omega
              rcases hxc with ⟨h5, h6⟩ | h5 | ⟨h5, h6⟩ | ⟨h5, h6⟩
              · go_wp2_with fail
                (with_reducible refine (HA.out _).mono ?_)
                rintro e w9 ⟨rfl, s9⟩
                have S9 := Lib.hid (HSM.out.trans_nil s9)
                clear s9
                go_wp2_with fail
                go_ret
                exact ⟨rfl, S9.out⟩
              · have h7 : ¬ 1500 < x := by omega
                have hnm : ¬ MayN x := fun h => by unfold MayN at h; omega
                have HNM := Lib.hid hnm
                clear hnm
                go_wp2_with fail
                go_roundw
                case rel => exact ⟨k + 1, by omega, by go_num, by rw [HTK.out, allB_no _ HNM.out], by rw [HTK.out, mayL_no _ HNM.out]; exact HO.out, HF.out, HSM.out⟩
                case measure => simp [intOf]; omega
              · have h7 : 1500 < x := by omega
                have h8 : ¬ x ≤ 4096 := by omega
                have hnm : ¬ MayN x := fun h => by unfold MayN at h; omega
                have HNM := Lib.hid hnm
                clear hnm
                go_wp2_with fail
                go_roundw
                case rel => exact ⟨k + 1, by omega, by go_num, by rw [HTK.out, allB_no _ HNM.out], by rw [HTK.out, mayL_no _ HNM.out]; exact HO.out, HF.out, HSM.out⟩
                case measure => simp [intOf]; omega
              · obtain ⟨n, rfl⟩ : ∃ n : Nat, x = (n : Int) := ⟨x.toNat, by omega⟩
                have h7 : ¬ (1500 : Int) < (n : Int) := by omega
                have h8 : ¬ (n : Int) < 12 := by omega
                have h9 : ¬ (4096 : Int) < (n : Int) := by omega
                have hmy : MayN (n : Int) := by unfold MayN; omega
                have HMY := Lib.hid hmy
                have hmk := make_z n (by omega) wr
                have hcv := z_str n (by omega) wr
                obtain ⟨zs, hzs⟩ : ∃ zs, zs = zS n := ⟨_, rfl⟩
                rw [← hzs] at hcv
                have HZS := Lib.hid hzs
                have m1 : (zsL (mayL (xs.take k))).length + 1 ≤ maxLen := by unfold maxLen; omega
                have n1 : ((zsL (mayL (xs.take k))).length + 1) * 16 ≤ 140737488355328 := by omega
                have hrd := Reads.of_own (row_new (wr.alloc (.cells (madeCells #[.int .u8 0] n) 5)) #[.string zs] 9 1 rfl (by decide))
                rw [World.size_alloc] at hrd
                have HRD := Lib.hid hrd
                clear hmy hzs hrd
                go_wp2_with (at_builtin; refine wpList_append_src rfl (.tmp 107) (.tmp 114) 22 rfl 0 9 i0 _ 1 16 Tryd.underlying22 hi hz0 hz1 hz2 rfl (by decide) _ (zsL (mayL (xs.take k))).length (strVals (zsL (mayL (xs.take k)))) rfl (by exact World.ownsRow.alloc (World.ownsRow.alloc HO.out _) _) _ 1 [.string zs] rfl HRD.out (by intro u hu; simp at hu; subst hu; rfl) m1 n1 (Nat.zero_le _) ?_; intro v2 w5 hown hgrow hat; have HOWN := Lib.hid hown; have HGR := Lib.hid hgrow; have HAT := Lib.hid hat; clear hown hgrow hat)
                have S4 := Lib.hid (sm_next HGR.out HF.out ((HSM.out.alloc _).alloc _))
                have F4 := Lib.hid (fr_next HAT.out HF.out ((HSM.out.alloc _).alloc _))
                go_roundw
                case rel =>
                  refine ⟨k + 1, by omega, by go_num, by rw [HTK.out, allB_yes _ HMY.out, ← HBB.out], ?_, F4.out, S4.out⟩
                  have h := HOWN.out
                  rw [HZS.out] at h
                  rw [HTK.out, mayL_yes _ HMY.out, zsL_snoc, List.length_append]
                  simpa [strVals] using h
                case measure => simp [intOf]; omega
            · obtain rfl : k = xs.length := by omega
              have h1i : ¬ (xs.length : Int) < (xs.length : Int) := by omega
              have hbv := HBB.out
              have ho := HO.out
              rw [List.take_length] at hbv ho
              have HMF := Lib.hid (fun W (h : Same [] w W) => many_fn xs _ W (nums_same HR.out h) (by omega))
              by_cases hb : bb = true
              · subst hb
                obtain ⟨hml, hmy⟩ := mayL_all hbv.symm
                rw [hml] at ho
                obtain ⟨ada, ca, rfl⟩ := own_form ho
                have hst := strs_of_own ho
                have hcz := cat_zs xs hmy
                have hmz : manyZ xs = (packG (catL (zsL xs)).size ⟨#[]⟩ (zsL xs)).length := by unfold manyZ; rw [if_pos hbv.symm]
                obtain ⟨n, hn⟩ : ∃ n, n = manyZ xs := ⟨_, rfl⟩
                have HBD := Lib.hid (bodies_any (zsL xs) _ wr hst (by rw [zsL_length]; omega) (by omega))
                rw [← hn] at HMF
                have HN := Lib.hid (hn.trans hmz)
                clear hbv ho hst hcz hmz hn hml hmy h1
                go_wp2_with fail
                (with_reducible refine HBD.out.mono ?_)
                rintro e w3 ⟨vb, rfl, hob, _, s3⟩
                obtain ⟨adb, cb, rfl⟩ := own_form hob
                rw [← HN.out]
                have S3 := Lib.hid (HSM.out.trans_nil s3)
                clear hob s3
                go_wp2_with fail
                (with_reducible refine (HMF.out _ S3.out).mono ?_)
                rintro e w4 ⟨rfl, s4⟩
                have S4 := Lib.hid (S3.out.trans_nil s4)
                clear s4
                go_wp2_with fail
                (with_reducible refine (HA.out _).mono ?_)
                rintro e w9 ⟨rfl, s9⟩
                have S9 := Lib.hid (S4.out.trans_nil s9)
                clear s9
                go_wp2_with fail
                go_ret
                exact ⟨rfl, S9.out⟩
              · have hb2 : bb = false := by simpa using hb
                subst hb2
                have hmz : manyZ xs = 0 := by unfold manyZ; rw [← hbv]; rfl
                rw [hmz] at HMF
                have hmf : ∀ W, Same [] w W → Calls Tryd.prog 22 #[.slice adm xs.length cm] W (Ret (.int .i64 0) W) := HMF.out
                have HMG := Lib.hid hmf
                clear hbv ho hmz h1 hb hmf
                go_wp2_with fail
                (with_reducible refine (HMG.out _ HSM.out).mono ?_)
                rintro e w4 ⟨rfl, s4⟩
                have S4 := Lib.hid (HSM.out.trans_nil s4)
                clear s4
                go_wp2_with fail
                (with_reducible refine (HA.out _).mono ?_)
                rintro e w9 ⟨rfl, s9⟩
                have S9 := Lib.hid (S4.out.trans_nil s9)
                clear s9
                go_wp2_with fail
                go_ret
                exact ⟨rfl, S9.out⟩
end Go.Proofs.YtpnbhgmcfooppaaDoor
