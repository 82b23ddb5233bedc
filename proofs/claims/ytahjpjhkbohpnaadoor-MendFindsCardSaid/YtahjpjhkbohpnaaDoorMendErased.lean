/- The walk of the law MendErased: 64 bytes that are lost come back, and with 64 lost any text is mended. No condition. -/
import Derived.Test.YtahjpjhkbohpnaaDoorNr1
namespace Go.Proofs.YtahjpjhkbohpnaaDoor
open Go.RowKit
set_option linter.unusedSimpArgs false
set_option linter.unusedVariables false

/-- The first places that are lost, going round. -/
def lostL (p k : Nat) : List Int := (List.range k).map (fun i => (((p + i) % 255 : Nat) : Int))
theorem lostL_succ (p k : Nat) : lostL p (k + 1) = lostL p k ++ [(((p + k) % 255 : Nat) : Int)] := by unfold lostL; rw [List.range_succ, List.map_append]; rfl
theorem lostL_length (p k : Nat) : (lostL p k).length = k := by unfold lostL; rw [List.length_map, List.length_range]
theorem lostL_good (p k : Nat) (hk : k ≤ 255) : GoodP (lostL p k) := by
  refine ⟨fun x hx => ?_, ?_⟩
  · obtain ⟨i, _, rfl⟩ := List.mem_map.1 hx
    omega
  · refine List.pairwise_map.2 (List.nodup_range.imp_of_mem fun {a b} ha hb hne h1 => hne ?_)
    rw [List.mem_range] at ha hb
    omega
theorem lostL_not (p : Nat) : (((p + 100) % 255 : Nat) : Int) ∉ lostL p 64 := fun h => by
  obtain ⟨i, hi, e⟩ := List.mem_map.1 h
  rw [List.mem_range] at hi
  omega
theorem erase_one {L : List UInt8} {U : ByteArray} {p : Nat} (hL : L.length = 255) (hU : IsW (lb U)) (h : ∀ j : Nat, (j : Int) ∉ lostL p 64 → cf L j = cf (lb U) j) : ansW (bs L) (lostL p 64) = (U, unl (bs L) U, 0) := by
  refine ans_found (by rw [size_bs, hL]) hU (lostL_good p 64 (by decide)) (by rw [lostL_length]; decide) ?_
  have : oth (bs L) U (lostL p 64) = [] := by
    unfold oth othK
    refine List.filter_eq_nil_iff.2 fun i _ => ?_
    simp only [decide_eq_true_eq]
    exact fun h9 => h9.1 (by rw [lb_bs]; exact (h i h9.2).symm)
  rw [this]; exact Nat.zero_le _
theorem erase_two {L : List UInt8} {U : ByteArray} {p : Nat} (hL : L.length = 255) (h : ∀ j : Nat, (j : Int) ∉ lostL p 64 → cf L j = cf (lb U) j) :
    ∃ V : ByteArray, ansW (bs (L.set ((p + 100) % 255) (cf L ((p + 100) % 255) ^^^ 1))) (lostL p 64) = (V, unl (bs (L.set ((p + 100) % 255) (cf L ((p + 100) % 255) ^^^ 1))) V, 0) ∧ isB V = true ∧ V.size = 255 ∧ V ≠ U := by
  obtain ⟨q, hq⟩ : ∃ q, q = (p + 100) % 255 := ⟨_, rfl⟩
  have hq5 : q < 255 := by omega
  have hqn : (q : Int) ∉ lostL p 64 := by rw [hq]; exact lostL_not p
  rw [← hq]
  obtain ⟨V, hV, ha, hc⟩ := ans_all (t := bs (L.set q (cf L q ^^^ 1))) (xs := lostL p 64) (by rw [size_bs, List.length_set, hL]) (lostL_good p 64 (by decide)) (lostL_length p 64)
  refine ⟨V, ha, isB_true.2 hV, by rw [← lb_length]; exact hV.1, fun e => ?_⟩
  have h1 := hc q hq5 hqn
  rw [e, lb_bs, cf_set0 (by rw [hL]; exact hq5), if_pos rfl, ← h q hqn] at h1
  have h2 := congrArg (fun z => cf L q ^^^ z) h1
  simp only [xself, xcancel] at h2
  exact absurd h2 (by decide)
theorem erase_step {L : List UInt8} {U : Nat → UInt8} {p k n : Nat} {z : UInt8} (hn : n = (p + k) % 255) (hl : n < L.length) (h : ∀ j : Nat, (j : Int) ∉ lostL p k → cf L j = U j) : ∀ j : Nat, (j : Int) ∉ lostL p (k + 1) → cf (L.set n z) j = U j := fun j hj => by
  rw [lostL_succ, List.mem_append, List.mem_singleton] at hj
  have h1 : (j : Int) ∉ lostL p k := fun h9 => hj (.inl h9)
  have h2 : j ≠ n := fun h9 => hj (.inr (by rw [h9, hn]))
  rw [cf_set0 hl, if_neg h2]
  exact h j h1
theorem erase_again {L : List UInt8} {U : Nat → UInt8} {p k n : Nat} {z : UInt8} (hn : n = (p + k) % 255) (hl : n < L.length) (h : ∀ j : Nat, (j : Int) ∉ lostL p (k + 1) → cf L j = U j) : ∀ j : Nat, (j : Int) ∉ lostL p (k + 1) → cf (L.set n z) j = U j := fun j hj => by
  have h2 : j ≠ n := fun h9 => hj (by rw [lostL_succ]; exact List.mem_append_right _ (by rw [h9, hn]; exact List.mem_singleton_self _))
  rw [cf_set0 hl, if_neg h2]
  exact h j hj
theorem row_on {B R cap : Nat} {wr w7 : World} {o : Obj} {v : Value} {L : List UInt8} {l : List Int} (h : RowF wr (.slice (some ⟨R, 0, none⟩) 255 cap) R (u8l L)) (ho : OwnI B wr v l) (hR : R < B) (hg : (wr.alloc o).grownBy w7 v.ownBlock) : RowF w7 (.slice (some ⟨R, 0, none⟩) 255 cap) R (u8l L) := by
  refine h.same (S := v.ownBlock.toList) (((Same.refl _ wr).alloc o).trans (Same.of_grown hg) (fun x hx _ => hx)) (fun hx => ?_)
  have := (World.ownsRow.lt ho R (by simpa using hx)).1
  omega
theorem own_set {B R m : Nat} {w : World} {v : Value} {l : List Int} (h : OwnI B w v l) (hR : R < B) (u : Value) : OwnI B (w.setCell ⟨R, m, none⟩ u) v l := by
  refine own_same (S := [R]) h ((Same.refl _ _).setCell (fun _ => by simp) _) (fun k hk => ?_)
  have := (World.ownsRow.lt h k hk).1
  simp; omega
theorem row_free {w : World} {R cap : Nat} {L : List UInt8} (h : RowF w (.slice (some ⟨R, 0, none⟩) 255 cap) R (u8l L)) (m : Nat) (hm : m < L.length) : w.frozen? ⟨R, m, none⟩ = false := by
  obtain ⟨c', h0, e1, _, _, h9⟩ := h
  rw [u8l_length] at e1
  exact (h9 m (by omega)).2
set_option maxRecDepth 100000 in
set_option maxHeartbeats 16000000 in
theorem mendErased_any (a : ByteArray) (n : Int) (s : ByteArray) (w : World) : Calls Tryd.prog 5 #[.string a, .int .i64 n, .string s] w (Ret (.bool true) w) := by
  have CA := Lib.hid (fun W => awake04_any W)
  by_cases h : ¬ a.size ≤ 191 ∨ (a.size ≤ 191 ∧ ¬ s.size ≤ 64) ∨ (a.size ≤ 191 ∧ s.size ≤ 64 ∧ n < 0) ∨ (a.size ≤ 191 ∧ s.size ≤ 64 ∧ ¬ n < 0 ∧ 254 < n)
  · have hc : (191 : Int) < (a.size : Int) ∨ (¬ (191 : Int) < (a.size : Int) ∧ (64 : Int) < (s.size : Int)) ∨ (¬ (191 : Int) < (a.size : Int) ∧ ¬ (64 : Int) < (s.size : Int) ∧ n < 0) ∨ (¬ (191 : Int) < (a.size : Int) ∧ ¬ (64 : Int) < (s.size : Int) ∧ ¬ n < 0 ∧ 254 < n) := by omega
    clear h
    rcases hc with h1 | ⟨h1, h2⟩ | ⟨h1, h2, h3⟩ | ⟨h1, h2, h3, h4⟩
    all_goals
      go_enter Tryd.func5, Tryd.ntmps5
      go_wp2_with fail
      (with_reducible refine (CA.out _).mono ?_)
      rintro e w8 ⟨rfl, s8⟩
      go_wp2_with fail
      go_ret
      exact ⟨rfl, s8⟩
  · have h1 : a.size ≤ 191 := by omega
    have h2 : s.size ≤ 64 := by omega
    obtain ⟨p, rfl⟩ : ∃ p : Nat, n = (p : Int) := ⟨n.toNat, by omega⟩
    have hp : p ≤ 254 := by omega
    have h1i : ¬ (191 : Int) < (a.size : Int) := by omega
    have h2i : ¬ (64 : Int) < (s.size : Int) := by omega
    have hpi : ¬ (254 : Int) < (p : Int) := by omega
    obtain ⟨F, hF⟩ : ∃ F, F = fullS a 191 := ⟨_, rfl⟩
    have hF9 : F.size = 191 := by rw [hF]; exact fullS_size a 191
    have C1 := Lib.hid (fun W => by have h9 := full191 a W (by omega); rw [← hF] at h9; exact h9)
    obtain ⟨U, hU⟩ : ∃ U, U = wordS F := ⟨_, rfl⟩
    have hUs : U.size = 255 := by rw [hU]; exact wordS_size F hF9
    have C2 := Lib.hid (fun W => by have h9 := word_ok F W hF9; rw [← hU] at h9; exact h9)
    have hwU : IsW (lb U) := by rw [hU]; exact wordS_isW F hF9
    have hUi : (U.size : Int) = 255 := by omega
    have HWU := Lib.hid hwU; have HUS := Lib.hid hUs
    have huu : (U.toList == U.toList) = true := by simp
    obtain ⟨i0, hi, hz0, hz1, hz2⟩ := info_parts Tryd.infoI
    clear h hF hU hwU hF9 h1
    have hcut := fun W => run_cut U W
    go_enter Tryd.func5, Tryd.ntmps5
    go_wp2_with fail
    (with_reducible refine (C1.out _).mono ?_)
    rintro e w20 ⟨rfl, s20⟩
    have S20 := Lib.hid s20
    clear s20
    go_wp2_with fail
    (with_reducible refine (C2.out _).mono ?_)
    rintro e w21 ⟨rfl, s21⟩
    have S21 := Lib.hid (S20.out.trans_nil s21)
    clear s21
    obtain ⟨R, hR⟩ : ∃ R, R = w21.heap.size := ⟨_, rfl⟩
    have hwR : w.heap.size ≤ R := by rw [hR]; exact S21.out.size
    have hrow := cut_rowl U w21 (by rw [hUs]; decide)
    have hsc := S21.out.trans_nil (cut_same U w21)
    obtain ⟨cap, hcap⟩ : ∃ cap, cap = grownCap w21 255 0 5 := ⟨_, rfl⟩
    have hv2 : cutV w21 U = .slice (some ⟨R, 0, none⟩) 255 cap := by unfold cutV; rw [hUs, ← hR, ← hcap]
    obtain ⟨w22, hw22⟩ : ∃ w22, w22 = cutW w21 U := ⟨_, rfl⟩
    rw [hv2, ← hw22, ← hR] at hrow
    rw [← hw22] at hsc
    have hcut1 : (convert 9 38 (.string U)).run Tryd.prog w21 = .ok (.slice (some ⟨R, 0, none⟩) 255 cap) w22 := by rw [hw22, ← hv2]; exact hcut w21
    have hRS : R < w22.heap.size := by rw [hw22, hR]; show _ < (World.alloc _ _).heap.size; rw [World.size_alloc]; exact Nat.lt_succ_self _
    obtain ⟨B, hB⟩ : ∃ B, B = w22.heap.size := ⟨_, rfl⟩
    have hRB : R < B := by rw [hB]; exact hRS
    have HROW := Lib.hid hrow; have HSC := Lib.hid hsc; have HRB := Lib.hid hRB; have HB := Lib.hid hB; have HWR := Lib.hid hwR
    clear hrow hsc hcap hv2 hw22 hcut hR hRS hB hRB hwR hUs
    go_wp2_with fail
    clear hcut1
    go_loopw [11, 10] (fun i lv wr => ∃ (k : Nat) (L : List UInt8), k ≤ 64 ∧ i = .int .i64 k ∧ L.length = 255 ∧ (∀ j : Nat, (j : Int) ∉ lostL p k → cf L j = cf (lb U) j) ∧ RowF wr (.slice (some ⟨R, 0, none⟩) 255 cap) R (u8l L) ∧ OwnI B wr lv (lostL p k) ∧ B ≤ wr.heap.size ∧ Same [] w wr) (fun i _ _ => 64 - (intOf i).toNat)
    case atStart => exact ⟨0, lb U, Nat.zero_le _, rfl, by rw [lb_length]; exact HUS.out, fun _ _ => rfl, HROW.out, OwnI.nil _ _, by rw [HB.out]; exact Nat.le_refl _, HSC.out⟩
    case round =>
      obtain ⟨k, L, hk, rfl, hl, hd, hrow, ho, hbs, hsm⟩ := hrel
      have HD := Lib.hid hd; have HROW := Lib.hid hrow; have HO := Lib.hid ho; have HSM := Lib.hid hsm; have HL := Lib.hid hl; have HBS := Lib.hid hbs
      by_cases h5 : k < 64
      · have h5i : (k : Int) < 64 := by omega
        obtain ⟨q, hq⟩ : ∃ q, q = p + k := ⟨_, rfl⟩
        have hqi : (p : Int) + (k : Int) = (q : Int) := by omega
        obtain ⟨m, hm⟩ : ∃ m, m = q % 255 := ⟨_, rfl⟩
        have hmi : (q : Int).tmod 255 = (m : Int) := by rw [hm]; rfl
        have hmj : (q : Int) % 255 = (m : Int) := by omega
        have hm5 : m < 255 := by omega
        have hm5i : (m : Int) < 255 := by omega
        have HMD := Lib.hid (show m = (p + k) % 255 by rw [hm, hq])
        have m1 : (lostL p k).length + 1 ≤ maxLen := by rw [lostL_length]; unfold maxLen; omega
        have n1 : ((lostL p k).length + 1) * 8 ≤ 140737488355328 := by rw [lostL_length]; omega
        obtain ⟨M, hM⟩ : ∃ M, M = lostL p k := ⟨_, rfl⟩
        have hMs : lostL p (k + 1) = M ++ [(m : Int)] := by rw [lostL_succ, ← HMD.out, hM]
        rw [← hM] at HO m1 n1
        have HMS := Lib.hid hMs
        have hbase : B ≤ (wr.alloc (.cells #[.int .i64 (m : Int)] 3)).heap.size := by rw [World.size_alloc]; exact Nat.le_succ_of_le hbs
        clear hd hrow ho hbs hsm hl hq hm hM hMs
        go_wp2_with (at_builtin; refine wpList_append_src rfl (.tmp 61) (.tmp 63) 22 rfl B 3 i0 (.int .i64 0) 1 8 Tryd.underlying22 hi hz0 hz1 hz2 rfl (by decide) _ M.length _ rfl (HO.out.alloc _) _ 1 _ rfl (readsI_one wr (m : Int)) (one_il [(m : Int)]) m1 n1 hbase ?_; intro v2 w7 hown hgrow hat; have hrow7 := row_on HROW.out HO.out HRB.out hgrow; have c1 := hrow7.cell m (by rw [HL.out]; exact hm5); have f1 := row_free hrow7 m (by rw [HL.out]; exact hm5); have HOWN := Lib.hid hown; have HGW := Lib.hid hgrow; have HROW7 := Lib.hid hrow7; clear hown hgrow hat hrow7)
        · obtain ⟨q1, q2⟩ := OwnI.grow (HO.out.alloc _) (Nat.le_trans HWR.out (Nat.le_of_lt HRB.out)) (HSM.out.alloc _) HOWN.out HGW.out
          have hb7 : B ≤ w7.heap.size := Nat.le_trans hbase HGW.out.size
          have hm255 : m < L.length := by rw [HL.out]; exact hm5
          have hnw : R < w.heap.size → R ∈ [] := fun h9 => absurd h9 (by have := HWR.out; omega)
          go_roundw
          case rel => exact ⟨k + 1, (L.set m 0).set m s[k], by omega, by go_num, by rw [List.length_set, List.length_set]; exact HL.out, erase_again HMD.out (by rw [List.length_set]; exact hm255) (erase_step HMD.out hm255 HD.out), rowF_set (rowF_set HROW7.out m hm255 0) m (by rw [List.length_set]; exact hm255) s[k], by rw [HMS.out]; exact own_set (own_set q1 HRB.out _) HRB.out _, by rw [size_set, size_set]; exact hb7, (q2.setCell hnw _).setCell hnw _⟩
          case measure => simp [intOf]; omega
        · obtain ⟨q1, q2⟩ := OwnI.grow (HO.out.alloc _) (Nat.le_trans HWR.out (Nat.le_of_lt HRB.out)) (HSM.out.alloc _) HOWN.out HGW.out
          have hb7 : B ≤ w7.heap.size := Nat.le_trans hbase HGW.out.size
          have hm255 : m < L.length := by rw [HL.out]; exact hm5
          have hnw : R < w.heap.size → R ∈ [] := fun h9 => absurd h9 (by have := HWR.out; omega)
          go_roundw
          case rel => exact ⟨k + 1, L.set m 0, by omega, by go_num, by rw [List.length_set]; exact HL.out, erase_step HMD.out hm255 HD.out, rowF_set HROW7.out m hm255 0, by rw [HMS.out]; exact own_set q1 HRB.out _, by rw [size_set]; exact hb7, q2.setCell hnw _⟩
          case measure => simp [intOf]; omega
      · obtain rfl : k = 64 := by omega
        obtain ⟨T, hT⟩ : ∃ T, T = bs L := ⟨_, rfl⟩
        have hTs : T.size = 255 := by rw [hT, size_bs, hl]
        have hcv1 := hrow.str
        rw [← hT] at hcv1
        have HT := Lib.hid hT
        have hA1 := erase_one hl HWU.out hd
        rw [← hT] at hA1
        obtain ⟨l1, hl1⟩ : ∃ l1, l1 = unl T U := ⟨_, rfl⟩
        rw [← hl1] at hA1
        have HW1 := Lib.hid (fun W u (h : NumsAt W u (lostL p 64)) => (by have h9 := mword_any T (lostL p 64) u W (by omega) h (by rw [lostL_length]; decide); rw [hA1] at h9; exact h9 : Calls Tryd.prog 16 #[.string T, u] W (fun e w' => ∃ u, e = .returned (.tuple #[.string U, u, .int .i64 0]) ∧ NumsAt w' u l1 ∧ Same [] W w')))
        obtain ⟨V, hA2, hVW, hVs, hVU⟩ := erase_two hl hd
        obtain ⟨q, hq⟩ : ∃ q, q = p + 100 := ⟨_, rfl⟩
        have hqi : (p : Int) + 100 = (q : Int) := by omega
        obtain ⟨m, hm⟩ : ∃ m, m = q % 255 := ⟨_, rfl⟩
        have hmi : (q : Int).tmod 255 = (m : Int) := by rw [hm]; rfl
        have hmj : (q : Int) % 255 = (m : Int) := by omega
        have hm5 : m < 255 := by omega
        have hm5i : (m : Int) < 255 := by omega
        rw [show (p + 100) % 255 = m by rw [hm, hq]] at hA2
        obtain ⟨y, hy⟩ : ∃ y, y = cf L m := ⟨_, rfl⟩
        rw [← hy] at hA2
        obtain ⟨z, hz⟩ : ∃ z, z = y ^^^ 1 := ⟨_, rfl⟩
        have hzx : bits .xor .u8 (y.toNat : Int) 1 = (z.toNat : Int) := by rw [show (1 : Int) = ((1 : UInt8).toNat : Int) from rfl, u8_xor, hz]
        rw [← hz] at hA2
        obtain ⟨T2, hT2⟩ : ∃ T2, T2 = bs (L.set m z) := ⟨_, rfl⟩
        rw [← hT2] at hA2
        have hT2s : T2.size = 255 := by rw [hT2, size_bs, List.length_set, hl]
        obtain ⟨l2, hl2⟩ : ∃ l2, l2 = unl T2 V := ⟨_, rfl⟩
        rw [← hl2] at hA2
        have HW2 := Lib.hid (fun W u (h : NumsAt W u (lostL p 64)) => (by have h9 := mword_any T2 (lostL p 64) u W (by omega) h (by rw [lostL_length]; decide); rw [hA2] at h9; exact h9 : Calls Tryd.prog 16 #[.string T2, u] W (fun e w' => ∃ u, e = .returned (.tuple #[.string V, u, .int .i64 0]) ∧ NumsAt w' u l2 ∧ Same [] W w')))
        have HIS := Lib.hid (fun W => by have h9 := ris_any V W (by omega); rw [hVW] at h9; exact h9)
        have hvu : (V.toList == U.toList) = false := by rw [str_beq]; exact decide_eq_false hVU
        have hvn : (V.toList != U.toList) = true := by rw [bne, hvu]; rfl
        have HT2 := Lib.hid hT2; have HY := Lib.hid hy; have HTS := Lib.hid hTs
        have HNM := Lib.hid ho.nums
        clear hd hrow ho hbs hsm hl hT hA1 hl1 hA2 hVW hVU hq hm hy hz hT2 hl2 h5
        go_wp2_with fail
        (with_reducible refine (HW1.out _ _ HNM.out).mono ?_)
        rintro e w2 ⟨u1, rfl, hn, s2⟩
        have S2 := Lib.hid (HSM.out.trans_nil s2); have HNM2 := Lib.hid (HNM.out.same s2)
        have hcv2 := (HROW.out.same s2 (by simp)).str
        rw [← HT.out] at hcv2
        clear hn s2 hcv1
        obtain ⟨R2, hR2⟩ : ∃ R2, R2 = w2.heap.size := ⟨_, rfl⟩
        have hrow2 := cut_rowl T w2 (by rw [hTs]; decide)
        have hsc := cut_same T w2
        obtain ⟨cap2, hcap2⟩ : ∃ cap2, cap2 = grownCap w2 255 0 5 := ⟨_, rfl⟩
        have hv2 : cutV w2 T = .slice (some ⟨R2, 0, none⟩) 255 cap2 := by unfold cutV; rw [hTs, ← hR2, ← hcap2]
        have hcut := run_cut T w2
        obtain ⟨w3, hw3⟩ : ∃ w3, w3 = cutW w2 T := ⟨_, rfl⟩
        rw [hv2, ← hw3, ← hR2] at hrow2
        rw [← hw3] at hsc
        rw [hv2, ← hw3] at hcut
        rw [HT.out, lb_bs] at hrow2
        have hc2 := hrow2.cell m (by rw [HL.out]; exact hm5)
        rw [← HY.out] at hc2
        have hf2 := row_free hrow2 m (by rw [HL.out]; exact hm5)
        have hcv3 := (rowF_set hrow2 m (by rw [HL.out]; exact hm5) z).str
        rw [← HT2.out] at hcv3
        have hs4 : Same [] w2 (w3.setCell ⟨R2, m, none⟩ (.int .u8 (z.toNat : Int))) := hsc.setCell (fun h9 => absurd h9 (by rw [hR2]; exact Nat.lt_irrefl _)) _
        have HS4 := Lib.hid hs4
        clear hrow2 hsc hcap2 hv2 hw3 hR2 hs4 hTs
        go_wp2_with fail
        (with_reducible refine (HW2.out _ _ (HNM2.out.same HS4.out)).mono ?_)
        rintro e w5 ⟨u2, rfl, hn, s5⟩
        have S5 := Lib.hid ((S2.out.trans_nil HS4.out).trans_nil s5)
        clear hn s5 hcv2 hcv3 hcut hc2 hf2
        go_wp2_with fail
        (with_reducible refine (HIS.out _).mono ?_)
        rintro e w6 ⟨rfl, s6⟩
        have S6 := Lib.hid (S5.out.trans_nil s6)
        clear s6
        go_wp2_with fail
        (with_reducible refine (CA.out _).mono ?_)
        rintro e w8 ⟨rfl, s8⟩
        have S8 := Lib.hid (S6.out.trans_nil s8)
        clear s8
        go_wp2_with fail
        go_ret
        exact ⟨rfl, S8.out⟩
end Go.Proofs.YtahjpjhkbohpnaaDoor
