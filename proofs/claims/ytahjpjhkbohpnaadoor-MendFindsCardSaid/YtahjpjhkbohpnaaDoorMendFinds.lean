/- The walk of the law MendFinds: THE STAGE'S THEOREM. No condition. -/
import Derived.Test.YtahjpjhkbohpnaaDoorMendErased
namespace Go.Proofs.YtahjpjhkbohpnaaDoor
open Go.RowKit
set_option linter.unusedSimpArgs false
set_option linter.unusedVariables false

/-- The first of others that are places at all. -/
def extraK (ys : List Int) (k : Nat) : List Int := (ys.take k).filter (fun x => decide (0 ≤ x ∧ x < 255))
theorem extraK_succ {ys : List Int} {k : Nat} (hk : k < ys.length) : extraK ys (k + 1) = if 0 ≤ ys[k] ∧ ys[k] < 255 then extraK ys k ++ [ys[k]] else extraK ys k := by
  unfold extraK
  rw [List.take_succ_eq_append_getElem hk, List.filter_append]
  by_cases h : 0 ≤ ys[k] ∧ ys[k] < 255
  · rw [if_pos h, List.filter_cons_of_pos (by simpa using h)]; rfl
  · rw [if_neg h, List.filter_cons_of_neg (by simpa using h)]; simp
theorem extraK_len (ys : List Int) (k : Nat) : (extraK ys k).length ≤ k := by
  unfold extraK
  have := List.length_filter_le (fun x : Int => decide (0 ≤ x ∧ x < 255)) (ys.take k)
  rw [List.length_take] at this; omega
theorem extraK_mem {ys : List Int} {k : Nat} {x : Int} (h : x ∈ extraK ys k) : 0 ≤ x ∧ x < 255 := by
  unfold extraK at h
  have := (List.mem_filter.1 h).2
  simpa using this
theorem finds_plain {L : List UInt8} {U : ByteArray} {xs E : List Int} (hL : L.length = 255) (hU : IsW (lb U)) (hg : GoodP xs) (hl : xs.length ≤ 64) (hE : E.length ≤ (64 - xs.length) / 2)
    (h : ∀ j : Nat, (j : Int) ∉ xs ++ E → cf L j = cf (lb U) j) : ansW (bs L) xs = (U, unl (bs L) U, 0) := by
  refine ans_found (by rw [size_bs, hL]) hU hg hl (Nat.le_trans ?_ hE)
  have hnd : (oth (bs L) U xs).Nodup := by unfold oth othK; exact List.nodup_range.filter _
  have hnd2 : ((oth (bs L) U xs).map (fun (i : Nat) => (i : Int))).Nodup := List.pairwise_map.2 (hnd.imp fun {a b} hne h1 => hne (by omega))
  have hsub : ((oth (bs L) U xs).map (fun (i : Nat) => (i : Int))) ⊆ E := fun x hx => by
    obtain ⟨i, hi, rfl⟩ := List.mem_map.1 hx
    unfold oth othK at hi
    rw [List.mem_filter, decide_eq_true_eq] at hi
    refine Decidable.byContradiction fun hn => hi.2.1 ?_
    rw [lb_bs]
    exact (h i (fun hm => (List.mem_append.1 hm).elim hi.2.2 hn)).symm
  have := List.Nodup.length_le_of_subset hnd2 hsub
  rwa [List.length_map] at this
theorem finds_step {L : List UInt8} {U : Nat → UInt8} {A : List Int} {k n : Nat} {z : UInt8} (hk : k < A.length) (hx : A[k] = (n : Int)) (hn : n < L.length) (h : ∀ j : Nat, (j : Int) ∉ A.take k → cf L j = U j) : ∀ j : Nat, (j : Int) ∉ A.take (k + 1) → cf (L.set n z) j = U j := fun j hj => by
  rw [List.take_succ_eq_append_getElem hk, List.mem_append, List.mem_singleton, hx] at hj
  rw [cf_set0 hn, if_neg (fun h9 => hj (.inr (by rw [h9])))]
  exact h j (fun h9 => hj (.inl h9))
theorem finds_same {L : List UInt8} {U : Nat → UInt8} {A : List Int} {k : Nat} (hk : k < A.length) (h : ∀ j : Nat, (j : Int) ∉ A.take k → cf L j = U j) : ∀ j : Nat, (j : Int) ∉ A.take (k + 1) → cf L j = U j := fun j hj => by
  rw [List.take_succ_eq_append_getElem hk] at hj
  exact h j (fun h9 => hj (List.mem_append_left _ h9))
theorem nums_of {w : World} {v : Value} {xs : List Int} (h : NumsR w v xs) : NumsAt w v xs := h.1
theorem same_nil {a b : World} (h : a.grownBy b (Value.slice none 0 0).ownBlock) : Same [] a b := by
  have h1 := Same.of_grown h
  exact h1
theorem OwnI.drew {B : Nat} {w : World} {v : Value} {l : List Int} (h : OwnI B w v l) : OwnI B w.drew v l := h
set_option maxRecDepth 100000 in
set_option maxHeartbeats 16000000 in
theorem mendFinds_any (a : ByteArray) (u0 u1 : Value) (xs ys : List Int) (t : ByteArray) (w : World) (hr0 : NumsR w u0 xs) (hr1 : NumsR w u1 ys) : Calls Tryd.prog 6 #[.string a, .agg #[u0, u1], .string t] w (Ret (.bool true) w) := by
  have CA := Lib.hid (fun W => awake04_any W)
  have HR0 := Lib.hid hr0
  have HP := Lib.hid (fun W (h : NumsAt W u0 xs) => rplaces_any xs u0 W h)
  obtain ⟨⟨ad0, cp0, rfl, hlc0, hcm0, _⟩, _⟩ := hr0
  obtain ⟨⟨ad1, cp1, rfl, hlc1, hcm1, hcell1⟩, _⟩ := hr1
  have HC1 := Lib.hid hcell1
  clear hcell1
  by_cases h : ¬ a.size ≤ 191 ∨ (a.size ≤ 191 ∧ ¬ xs.length ≤ 64) ∨ (a.size ≤ 191 ∧ xs.length ≤ 64 ∧ ¬ ys.length ≤ 64) ∨ (a.size ≤ 191 ∧ xs.length ≤ 64 ∧ ys.length ≤ 64 ∧ ¬ t.size ≤ 255)
  · have hc : (191 : Int) < (a.size : Int) ∨ (¬ (191 : Int) < (a.size : Int) ∧ (64 : Int) < (xs.length : Int)) ∨ (¬ (191 : Int) < (a.size : Int) ∧ ¬ (64 : Int) < (xs.length : Int) ∧ (64 : Int) < (ys.length : Int)) ∨ (¬ (191 : Int) < (a.size : Int) ∧ ¬ (64 : Int) < (xs.length : Int) ∧ ¬ (64 : Int) < (ys.length : Int) ∧ (255 : Int) < (t.size : Int)) := by omega
    clear h
    rcases hc with h1 | ⟨h1, h2⟩ | ⟨h1, h2, h3⟩ | ⟨h1, h2, h3, h4⟩
    all_goals
      go_enter Tryd.func6, Tryd.ntmps6
      go_wp2_with fail
      (with_reducible refine (CA.out _).mono ?_)
      rintro e w8 ⟨rfl, s8⟩
      go_wp2_with fail
      go_ret
      exact ⟨rfl, ((Same.refl [] w).alloc _).trans_nil s8⟩
  · have h1 : a.size ≤ 191 := by omega
    have h2 : xs.length ≤ 64 := by omega
    have h3 : ys.length ≤ 64 := by omega
    have h4 : t.size ≤ 255 := by omega
    have h1i : ¬ (191 : Int) < (a.size : Int) := by omega
    have h2i : ¬ (64 : Int) < (xs.length : Int) := by omega
    have h3i : ¬ (64 : Int) < (ys.length : Int) := by omega
    have h4i : ¬ (255 : Int) < (t.size : Int) := by omega
    by_cases hg : GoodP xs
    · rw [decide_eq_true hg] at HP
      have HG := Lib.hid hg
      obtain ⟨F, hF⟩ : ∃ F, F = fullS a 191 := ⟨_, rfl⟩
      have hF9 : F.size = 191 := by rw [hF]; exact fullS_size a 191
      have C1 := Lib.hid (fun W => by have h9 := full191 a W (by omega); rw [← hF] at h9; exact h9)
      obtain ⟨U, hU⟩ : ∃ U, U = wordS F := ⟨_, rfl⟩
      have hUs : U.size = 255 := by rw [hU]; exact wordS_size F hF9
      have C2 := Lib.hid (fun W => by have h9 := word_ok F W hF9; rw [← hU] at h9; exact h9)
      have hwU : IsW (lb U) := by rw [hU]; exact wordS_isW F hF9
      have hUi : (U.size : Int) = 255 := by omega
      have HWU := Lib.hid hwU; have HUS := Lib.hid hUs
      have huu : (U.toList == U.toList) = true := by simp
      have hdd : ((U.extract 0 191).toList == (U.extract 0 191).toList) = true := by simp
      obtain ⟨rm, hrmd⟩ : ∃ rm, rm = (64 - xs.length) / 2 := ⟨_, rfl⟩
      have hrm : roomZ (xs.length : Int) = (rm : Int) := by unfold roomZ; rw [if_neg (by omega)]; omega
      have HRM := Lib.hid (fun W => by have h9 := rroom_any (xs.length : Int) W; rw [hrm] at h9; exact h9)
      have HRMD := Lib.hid hrmd
      obtain ⟨i0, hi, hz0, hz1, hz2⟩ := info_parts Tryd.infoI
      clear h hF hU hwU hF9 h1 hg hrm hrmd
      have hcut := fun W => run_cut U W
      go_enter Tryd.func6, Tryd.ntmps6
      go_wp2_with fail
      have hsb : Same [] w (w.alloc (.cells #[.slice ad0 xs.length cp0, .slice ad1 ys.length cp1] 41)) := (Same.refl [] w).alloc _
      have SB := Lib.hid hsb
      clear hsb
      (with_reducible refine (HP.out _ ((nums_of HR0.out).same SB.out)).mono ?_)
      rintro e w19 ⟨rfl, s19⟩
      have S19 := Lib.hid (SB.out.trans_nil s19)
      clear s19
      go_wp2_with fail
      (with_reducible refine (C1.out _).mono ?_)
      rintro e w20 ⟨rfl, s20⟩
      have S20 := Lib.hid (S19.out.trans_nil s20)
      clear s20
      go_wp2_with fail
      (with_reducible refine (C2.out _).mono ?_)
      rintro e w21 ⟨rfl, s21⟩
      have S21 := Lib.hid (S20.out.trans_nil s21)
      clear s21
      obtain ⟨R, hR⟩ : ∃ R, R = w21.heap.size := ⟨_, rfl⟩
      have hwR : w.heap.size ≤ R := by rw [hR]; exact S21.out.size
      have hrow := cut_rowl U w21 (by rw [hUs]; decide)
      have hsc := S21.out.trans_nil (cut_same U w21)
      obtain ⟨cap, hcap⟩ : ∃ cap, cap = grownCap w21 255 0 5 := ⟨_, rfl⟩
      have hv2 : cutV w21 U = .slice (some ⟨R, 0, none⟩) 255 cap := by unfold cutV; rw [hUs, ← hR, ← hcap]
      obtain ⟨w22, hw22⟩ : ∃ w22, w22 = cutW w21 U := ⟨_, rfl⟩
      rw [hv2, ← hw22, ← hR] at hrow
      rw [← hw22] at hsc
      have hcut1 : (convert 9 38 (.string U)).run Tryd.prog w21 = .ok (.slice (some ⟨R, 0, none⟩) 255 cap) w22 := by rw [hw22, ← hv2]; exact hcut w21
      have hRS : R < w22.heap.size := by rw [hw22, hR]; show _ < (World.alloc _ _).heap.size; rw [World.size_alloc]; exact Nat.lt_succ_self _
      obtain ⟨B, hB⟩ : ∃ B, B = w22.heap.size := ⟨_, rfl⟩
      have hRB : R < B := by rw [hB]; exact hRS
      have HROW := Lib.hid hrow; have HSC := Lib.hid hsc; have HRB := Lib.hid hRB; have HB := Lib.hid hB; have HWR := Lib.hid hwR
      have hbase : B ≤ w22.heap.size := by rw [hB]; exact Nat.le_refl _
      have m0 : 0 + xs.length ≤ maxLen := by unfold maxLen; omega
      have n0 : (0 + xs.length) * 8 ≤ 140737488355328 := by omega
      clear hrow hsc hcap hv2 hw22 hcut hR hRS hB hRB hwR hUs
      go_wp2_with fail
      (with_reducible refine (HRM.out _).mono ?_)
      rintro e w' ⟨rfl, rfl⟩
      clear hcut1
      go_wp2_with (at_builtin; refine wpList_append_nums rfl (.tmp 68) (.tmp 69) 22 rfl B 3 i0 (.int .i64 0) 8 Tryd.underlying22 hi hz0 hz1 hz2 rfl _ 0 [] rfl (OwnI.nil B w22) _ xs rfl (HR0.out.same HSC.out) m0 n0 hbase ?_; intro v2 w23 hown hgrow; have hsn := same_nil hgrow; have hrow7 := HROW.out.same hsn (by simp); have HOWN := Lib.hid (show OwnI B w23 v2 xs from by have h9 := hown; rw [Nat.zero_add, List.nil_append] at h9; exact h9); have HS23 := Lib.hid (show Same [] w w23 from HSC.out.trans_nil hsn); have HB23 := Lib.hid (show B ≤ w23.heap.size from Nat.le_trans hbase hgrow.size); have HROW7 := Lib.hid hrow7; clear hown hgrow hrow7 hsn)
      clear hbase m0 n0
      go_loopw [14, 13] (fun i av wr => ∃ k : Nat, k ≤ ys.length ∧ k ≤ rm ∧ i = .int .i64 k ∧ RowF wr (.slice (some ⟨R, 0, none⟩) 255 cap) R (u8l (lb U)) ∧ OwnI B wr av (xs ++ extraK ys k) ∧ B ≤ wr.heap.size ∧ Same [] w wr) (fun i _ _ => ys.length - (intOf i).toNat)
      case atStart => exact ⟨0, Nat.zero_le _, Nat.zero_le _, rfl, HROW7.out, by rw [show extraK ys 0 = [] from rfl, List.append_nil]; exact HOWN.out, HB23.out, HS23.out⟩
      case round =>
        obtain ⟨k, hk, hkr, rfl, hrow, ho, hbs, hsm⟩ := hrel
        have HROW := Lib.hid hrow; have HO := Lib.hid ho; have HSM := Lib.hid hsm; have HBS := Lib.hid hbs
        by_cases h5 : k < ys.length ∧ k < rm
        · obtain ⟨h5, h6⟩ := h5
          have h5i : (k : Int) < (ys.length : Int) := by omega
          have h6i : (k : Int) < (rm : Int) := by omega
          obtain ⟨ad', rfl, hsp, c0⟩ := HC1.out k h5
          obtain ⟨g, o, sp⟩ := ad'
          simp only at hsp c0
          subst hsp
          have hex := extraK_succ h5
          obtain ⟨x, hx⟩ : ∃ x, x = ys[k] := ⟨_, rfl⟩
          rw [← hx] at c0 hex
          have d0 := hsm.cell c0 (by simp)
          clear c0 hx hrow ho hbs hsm
          by_cases hx0 : x < 0
          · rw [if_neg (by omega)] at hex
            have HEX := Lib.hid hex
            clear hex
            go_wp2_with fail
            go_roundw
            case rel => exact ⟨k + 1, by omega, by omega, by go_num, HROW.out, by rw [HEX.out]; exact HO.out, HBS.out, HSM.out⟩
            case measure => simp [intOf]; omega
          · by_cases hx5 : 255 ≤ x
            · rw [if_neg (by omega)] at hex
              have HEX := Lib.hid hex
              clear hex
              go_wp2_with fail
              go_roundw
              case rel => exact ⟨k + 1, by omega, by omega, by go_num, HROW.out, by rw [HEX.out]; exact HO.out, HBS.out, HSM.out⟩
              case measure => simp [intOf]; omega
            · rw [if_pos (by omega)] at hex
              have HEX := Lib.hid hex
              have hel := extraK_len ys k
              obtain ⟨M, hM⟩ : ∃ M, M = xs ++ extraK ys k := ⟨_, rfl⟩
              have hMl : M.length ≤ 200 := by rw [hM, List.length_append]; omega
              rw [← hM] at HO
              have HM := Lib.hid hM
              have m1 : M.length + 1 ≤ maxLen := by unfold maxLen; omega
              have n1 : (M.length + 1) * 8 ≤ 140737488355328 := by omega
              have hbase : B ≤ (wr.alloc (.cells #[.int .i64 x] 3)).heap.size := by rw [World.size_alloc]; exact Nat.le_succ_of_le HBS.out
              clear hex hel hM
              go_wp2_with (at_builtin; refine wpList_append_src rfl (.tmp 94) (.tmp 99) 22 rfl B 3 i0 (.int .i64 0) 1 8 Tryd.underlying22 hi hz0 hz1 hz2 rfl (by decide) _ M.length _ rfl (HO.out.alloc _) _ 1 _ rfl (readsI_one wr x) (one_il [x]) m1 n1 hbase ?_; intro v2 w7 hown hgrow hat; have hrow7 := row_on HROW.out HO.out HRB.out hgrow; have HOWN := Lib.hid hown; have HGW := Lib.hid hgrow; have HROW7 := Lib.hid hrow7; clear hown hgrow hat hrow7)
              obtain ⟨q1, q2⟩ := OwnI.grow (HO.out.alloc _) (Nat.le_trans HWR.out (Nat.le_of_lt HRB.out)) (HSM.out.alloc _) HOWN.out HGW.out
              have hb7 : B ≤ w7.heap.size := Nat.le_trans hbase HGW.out.size
              go_roundw
              case rel => exact ⟨k + 1, by omega, by omega, by go_num, HROW7.out, by rw [HEX.out, ← List.append_assoc, ← HM.out]; exact q1, hb7, q2⟩
              case measure => simp [intOf]; omega
        · have hc : ¬ (k : Int) < (ys.length : Int) ∨ ((k : Int) < (ys.length : Int) ∧ ¬ (k : Int) < (rm : Int)) := by omega
          obtain ⟨E, hE⟩ : ∃ E, E = extraK ys k := ⟨_, rfl⟩
          have hEl : E.length ≤ rm := by rw [hE]; exact Nat.le_trans (extraK_len ys k) hkr
          have hEm : ∀ x ∈ E, 0 ≤ x ∧ x < 255 := by rw [hE]; exact fun x hx => extraK_mem hx
          rw [← hE] at HO
          obtain ⟨A, hA⟩ : ∃ A, A = xs ++ E := ⟨_, rfl⟩
          rw [← hA] at HO
          have hAr : ∀ x ∈ A, 0 ≤ x ∧ x < 255 := by
            rw [hA]; intro x hx
            rcases List.mem_append.1 hx with hx | hx
            · have := HG.out.1 x hx; omega
            · exact hEm x hx
          have HA := Lib.hid hA; have HEL := Lib.hid hEl; have HAR := Lib.hid hAr
          have hAl : A.length ≤ 200 := by rw [hA, List.length_append]; have := HRMD.out; omega
          obtain ⟨ad3, cp3, rfl, hlc3, hcm3, _⟩ := HO.out.nums
          clear hE hEm hA hAr hEl h5 hrow ho hbs hsm
          rcases hc with hc1 | ⟨hc1, hc2⟩
          all_goals
            go_wp2_with fail
            go_loopw [15] (fun i wq => ∃ (k : Nat) (L : List UInt8), k ≤ A.length ∧ i = .int .i64 k ∧ L.length = 255 ∧ (∀ j : Nat, (j : Int) ∉ A.take k → cf L j = cf (lb U) j) ∧ RowF wq (.slice (some ⟨R, 0, none⟩) 255 cap) R (u8l L) ∧ OwnI B wq (.slice ad3 A.length cp3) A ∧ Same [] w wq) (fun i _ => A.length - (intOf i).toNat)
            case atStart => exact ⟨0, lb U, Nat.zero_le _, rfl, by rw [lb_length]; exact HUS.out, fun _ _ => rfl, HROW.out, HO.out, HSM.out⟩
            case round =>
              obtain ⟨k2, L, hk2, rfl, hl, hd, hrow, ho, hsm⟩ := hrel
              have HD := Lib.hid hd; have HROWL := Lib.hid hrow; have HOL := Lib.hid ho; have HSML := Lib.hid hsm; have HL := Lib.hid hl
              by_cases h7 : k2 < A.length
              · have h7i : (k2 : Int) < (A.length : Int) := by omega
                obtain ⟨ad4, cp4, e4, _, _, hc4⟩ := ho.nums
                injection e4 with e5 e6 e7
                subst e5
                obtain ⟨ad', rfl, hsp, c0⟩ := hc4 k2 h7
                obtain ⟨g, o, sp⟩ := ad'
                simp only at hsp c0
                subst hsp
                obtain ⟨x, hx⟩ : ∃ x, x = A[k2] := ⟨_, rfl⟩
                have hxr := HAR.out _ (List.getElem_mem h7)
                rw [← hx] at c0 hxr
                have HX := Lib.hid hx
                obtain ⟨n, rfl⟩ : ∃ n : Nat, x = (n : Int) := ⟨x.toNat, by omega⟩
                have hn : n < 255 := by omega
                have hni : (n : Int) < 255 := by omega
                by_cases hnt : n < t.size
                · have hnti : (n : Int) < (t.size : Int) := by omega
                  have hnU : n < U.size := by have := HUS.out; omega
                  have hb1 := bt_at U n hnU
                  have hb2 := bt_at t n hnt
                  obtain ⟨y, hy⟩ : ∃ y, y = cf (lb U) n := ⟨_, rfl⟩
                  obtain ⟨y2, hy2⟩ : ∃ y2, y2 = cf (lb t) n := ⟨_, rfl⟩
                  rw [← hy] at hb1
                  rw [← hy2] at hb2
                  obtain ⟨z, hz⟩ : ∃ z, z = y ^^^ y2 := ⟨_, rfl⟩
                  have hzx : bits .xor .u8 (y.toNat : Int) (y2.toNat : Int) = (z.toNat : Int) := by rw [u8_xor, hz]
                  have c1 := hrow.cell n (by rw [hl]; exact hn)
                  have f1 := row_free hrow n (by rw [hl]; exact hn)
                  obtain ⟨p, hp⟩ : ∃ p, p = cf L n := ⟨_, rfl⟩
                  rw [← hp] at c1
                  have hnw : R < w.heap.size → R ∈ [] := fun h9 => absurd h9 (by have := HWR.out; omega)
                  have HNW := Lib.hid hnw
                  clear hd hrow ho hsm hl hc4 e6 e7 hx hxr hy hy2 hz hp hnw
                  go_wp2_with fail
                  go_region
                  all_goals
                    go_wp2_with fail
                    have hss : Same [R] wr (wr.setCell ⟨R, n, none⟩ (.int .u8 (z.toNat : Int))).drew := ((Same.refl [R] wr).setCell (by simp) _).drew
                    go_roundw
                    case rel => exact ⟨k2 + 1, L.set n z, by omega, by go_num, by rw [List.length_set]; exact HL.out, finds_step h7 HX.out.symm (by rw [HL.out]; exact hn) HD.out, rowF_set HROWL.out n (by rw [HL.out]; exact hn) z, own_set HOL.out HRB.out _, (HSML.out.setCell HNW.out _).drew⟩
                    case measure => simp [intOf]; omega
                · have hnti : ¬ (n : Int) < (t.size : Int) := by omega
                  clear hd hrow ho hsm hl hc4 e6 e7 hx hxr
                  go_wp2_with fail
                  go_roundw
                  case rel => exact ⟨k2 + 1, L, by omega, by go_num, HL.out, finds_same h7 HD.out, HROWL.out, HOL.out, HSML.out⟩
                  case measure => simp [intOf]; omega
              · obtain rfl : k2 = A.length := by omega
                have h7i : ¬ (A.length : Int) < (A.length : Int) := by omega
                obtain ⟨T, hT⟩ : ∃ T, T = bs L := ⟨_, rfl⟩
                have hTs : T.size = 255 := by rw [hT, size_bs, hl]
                have hcv1 := hrow.str
                rw [← hT] at hcv1
                have hans : ansW T xs = (U, unl T U, 0) := by
                  rw [hT]
                  refine finds_plain hl HWU.out HG.out h2 (E := E) (by rw [← HRMD.out]; exact HEL.out) (fun j hj => ?_)
                  rw [← HA.out] at hj
                  rw [List.take_length] at hd
                  exact hd j hj
                have HUN := Lib.hid (fun W => by have h9 := runlike_any T U W (by have := HUS.out; omega) (by omega); rw [hTs, show unlK T U 255 = unl T U from rfl] at h9; exact h9)
                obtain ⟨l1, hl1⟩ : ∃ l1, l1 = unl T U := ⟨_, rfl⟩
                rw [← hl1] at hans HUN
                have HW1 := Lib.hid (fun W (h : NumsAt W (.slice ad0 xs.length cp0) xs) => (by have h9 := mword_any T xs _ W (by omega) h (by omega); rw [hans] at h9; exact h9 : Calls Tryd.prog 16 #[.string T, .slice ad0 xs.length cp0] W (fun e w' => ∃ u, e = .returned (.tuple #[.string U, u, .int .i64 0]) ∧ NumsAt w' u l1 ∧ Same [] W w')))
                have HD1 := Lib.hid (fun W (h : NumsAt W (.slice ad0 xs.length cp0) xs) => (by have h9 := mdata_any T xs _ W (by omega) h (by omega); rw [hans, show datS (U, l1, 0) = U.extract 0 191 from if_pos rfl] at h9; exact h9 : Calls Tryd.prog 21 #[.string T, .slice ad0 xs.length cp0] W (Ret (.tuple #[.string (U.extract 0 191), .int .i64 0]) W)))
                have HUN2 := Lib.hid (show ∀ W, Calls Tryd.prog 22 #[.string T, .string U] W (fun e w' => ∃ v, e = .returned v ∧ NumsAt w' v l1 ∧ Same [] W w') from HUN.out)
                have hUg : 191 ≤ U.size := by have := HUS.out; omega
                have hUgi : (191 : Int) ≤ (U.size : Int) := by omega
                clear hd hrow ho hsm hl hT hTs hans hl1 h7 HUN
                go_wp2_with fail
                (with_reducible refine (HW1.out _ ((nums_of HR0.out).same HSML.out)).mono ?_)
                rintro e w2 ⟨u, rfl, hn, s2⟩
                have S2 := Lib.hid (HSML.out.trans_nil s2)
                have HN := Lib.hid hn
                clear hn s2 hcv1
                go_wp2_with fail
                (with_reducible refine (HD1.out _ ((nums_of HR0.out).same S2.out)).mono ?_)
                rintro e w3 ⟨rfl, s3⟩
                have S3 := Lib.hid (S2.out.trans_nil s3)
                have HN3 := Lib.hid (HN.out.same s3)
                clear s3
                go_wp2_with fail
                (with_reducible refine (HUN2.out _).mono ?_)
                rintro e w4 ⟨u4, rfl, hn4, s4⟩
                have S4 := Lib.hid (S3.out.trans_nil s4)
                have HN4 := Lib.hid (HN3.out.same s4); have HN44 := Lib.hid hn4
                clear s4 hn4
                go_wp2_with fail
                (with_reducible refine (ints_any l1 l1 _ _ _ HN4.out HN44.out).mono ?_)
                rintro e w5 ⟨rfl, s5⟩
                have S5 := Lib.hid (S4.out.trans_nil s5)
                have hll : decide (l1 = l1) = true := decide_eq_true rfl
                rw [hll]
                clear s5 hll
                go_wp2_with fail
                (with_reducible refine (CA.out _).mono ?_)
                rintro e w8 ⟨rfl, s8⟩
                have S8 := Lib.hid (S5.out.trans_nil s8)
                clear s8
                go_wp2_with fail
                go_ret
                exact ⟨rfl, S8.out⟩
    · rw [decide_eq_false hg] at HP
      clear h hg h1
      go_enter Tryd.func6, Tryd.ntmps6
      go_wp2_with fail
      have hsb : Same [] w (w.alloc (.cells #[.slice ad0 xs.length cp0, .slice ad1 ys.length cp1] 41)) := (Same.refl [] w).alloc _
      have SB := Lib.hid hsb
      clear hsb
      (with_reducible refine (HP.out _ ((nums_of HR0.out).same SB.out)).mono ?_)
      rintro e w19 ⟨rfl, s19⟩
      have S19 := Lib.hid (SB.out.trans_nil s19)
      clear s19
      go_wp2_with fail
      (with_reducible refine (CA.out _).mono ?_)
      rintro e w8 ⟨rfl, s8⟩
      have S8 := Lib.hid (S19.out.trans_nil s8)
      clear s8
      go_wp2_with fail
      go_ret
      exact ⟨rfl, S8.out⟩
end Go.Proofs.YtahjpjhkbohpnaaDoor
