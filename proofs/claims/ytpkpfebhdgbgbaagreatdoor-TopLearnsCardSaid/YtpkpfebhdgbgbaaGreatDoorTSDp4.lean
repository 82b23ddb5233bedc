/- The table of one program of bytes (DecodePmt): where it answers no error the table is encoded as these very bytes. Condition: the bytes are fewer than 5000. -/
import Derived.Test.YtpkpfebhdgbgbaaGreatDoorTSPsA1
import Derived.Test.YtpkpfebhdgbgbaaGreatDoorJumps
import Derived.Deep.RegionLaw
import Derived.Deep.RegionHeld3
namespace Go.Proofs.YtpkpfebhdgbgbaaGreatDoor.S
open Go.RowKit
set_option linter.unusedSimpArgs false
set_option linter.unusedVariables false
def pmtJ (t : ByteArray) (s0 : PSt) (st ve cl : Int) (info : ByteArray) (w : World) (R : Nat) (a : Act) (w' : World) : Prop :=
  ∃ (S X N : Nat) (k : Nat) (sl : Value) (bb : ByteArray) (ok : Bool) (l : List StrT) (u1 u9 u10 u11 u12 u13 u14 u15 u16 u17 u18 u19 u20 u21 u22 u23 u24 u25 u26 u27 u28 u29 u30 u31 u32 u33 u34 u35 u36 u37 u38 u39 u40 u41 u42 u43 u44 u45 u46 u47 u48 u49 u50 u51 u52 u53 u54 u55 u56 u57 u58 u59 u60 u61 u62 u63 u64 u65 u66 u67 u68 u69 u70 u71 u72 u73 u74 u75 u76 u77 u78 u79 u80 u81 u82 u83 u84 u85 u86 u87 u88 u89 u90 u91 u92 u93 : Value), stP s0 k = (bb, ok, l) ∧ 5 * k + bb.size ≤ s0.1.size ∧ (l.length = k ∧ ∀ q ∈ l, q.info.size ≤ 1024) ∧ PmtW w w' R X N st ve cl info sl l ∧ a = { tmps := #[.string t, u1, .pointer (some ⟨R, 0, none⟩), .int .i64 0, .pointer (some ⟨S, 0, none⟩), .int .i64 0, .pointer (some ⟨X, 0, none⟩), .string bb, .bool ok, u9, u10, u11, u12, u13, u14, u15, u16, u17, u18, u19, u20, u21, u22, u23, u24, u25, u26, u27, u28, u29, u30, u31, u32, u33, u34, u35, u36, u37, u38, u39, u40, u41, u42, u43, u44, u45, u46, u47, u48, u49, u50, u51, u52, u53, u54, u55, u56, u57, u58, u59, u60, u61, u62, u63, u64, u65, u66, u67, u68, u69, u70, u71, u72, u73, u74, u75, u76, u77, u78, u79, u80, u81, u82, u83, u84, u85, u86, u87, u88, u89, u90, u91, u92, u93], defers := [] }
def pmtMu (a : Act) (_ : World) : Nat := match a.tmps.getD 7 undef with | .string b => b.size | _ => 0
theorem st_cells {w : World} {b : Nat} {y0 y1 y2 : Value} (h : w.heap[b]? = some (.cells #[y0, y1, y2] 53 (0, 0))) :
    w.cell? ⟨b, 0, none⟩ = some y0 ∧ w.cell? ⟨b, 1, none⟩ = some y1 ∧ w.cell? ⟨b, 2, none⟩ = some y2 ∧ ∀ i, w.frozen? ⟨b, i, none⟩ = false := by
  refine ⟨?_, ?_, ?_, fun i => free_of h i⟩ <;> exact (cell_of h _).trans rfl
set_option maxRecDepth 100000 in
set_option maxHeartbeats 8000000 in
theorem decodePmt_any (t : ByteArray) (w : World) (hs : t.size < 5000) : Calls Tryz.prog 19 #[.string t] w (DecPmt t w) := by
  have HD := Lib.hid (fun W => opened_fn t 2 W (by omega))
  have HR := Lib.hid (heap_alloc_new w (.cells #[.int .i64 0, .int .i64 0, .int .i64 0, .string ⟨#[]⟩, .slice none 0 0] 56))
  obtain ⟨t0, p, e, v, nw, nu, la, b, hsh, hval⟩ := decA_shape t
  have hov : openedA t 2 = if openedE t 2 = 0 then sec8 t0 p e v nw nu la b else secZ := by unfold openedA; rw [hsh]
  obtain ⟨oe, hoe⟩ : ∃ oe, oe = openedE t 2 := ⟨_, rfl⟩
  have hde : openedE t 2 = 0 → decE t = 0 := fun h => by
    unfold openedE at h
    by_cases h1 : decE t = 0
    · exact h1
    · rw [if_pos h1] at h; exact absurd h h1
  by_cases h0 : openedE t 2 = 0
  · obtain ⟨hv0, hv1, hv2, hv3⟩ := hval (hde h0)
    rw [if_pos h0] at hov
    rw [hov, ← hoe, hoe.trans h0] at HD
    unfold sec8 at HD
    have ht1 : t.size ≤ 1024 := by
      refine Nat.not_lt.1 fun h9 => ?_
      unfold openedE at h0
      split at h0
      · rename_i h8; exact h8 h0
      · split at h0
        · cases h0
        · first | cases h0 | (rw [if_pos h9] at h0; cases h0)
    have hbz : b.size ≤ 1024 := by
      have h1 : (openS t).size ≤ t.size := by
        unfold openS; split
        · rw [ByteArray.size_extract]; omega
        · exact Nat.zero_le _
      rw [hv3]; unfold bodyS; rw [size_strOf]; unfold textFrom; rw [List.length_map, List.length_range]; omega
    have HV1 := Lib.hid hv1; have HV2 := Lib.hid hv2; have HV3 := Lib.hid hv3; have H0 := Lib.hid h0
    clear hsh hval hov hoe hde h0 hv0 hv1 hv2 hv3
    go_enter Tryz.func19, Tryz.ntmps19
    go_wp2_with fail
    refine wp_scope_one 0 (pmtJ t (headRest b, headOk b, []) e v (headCl b) (headInfo b) w w.heap.size) pmtMu rfl ?_ ?_
    · simp only [wpAll]
      by_cases h4 : 4 ≤ b.size
      · have h4i : (4 : Int) ≤ (b.size : Int) := by omega
        have h2i : (2 : Int) ≤ (b.size : Int) := by omega
        have HP1 := Lib.hid (fun W => pair_fn b W (by omega))
        have hez : (b.extract 2 b.size).size = b.size - 2 := by rw [ByteArray.size_extract]; omega
        have HI1 := Lib.hid (fun W => info_fn (b.extract 2 b.size) W (by omega))
        have han := andNot_pid (pairN b) (pairN_lt b)
        obtain ⟨q2, hq2⟩ : ∃ q, q = pairN b := ⟨_, rfl⟩
        rw [← hq2] at HP1 han
        have hcl : headCl b = ((q2 % 8192 : Nat) : Int) := by unfold headCl; rw [if_pos h4, hq2]
        obtain ⟨q3, hq3⟩ : ∃ q3, q3 = q2 % 8192 := ⟨_, rfl⟩
        rw [← hq3] at han hcl
        have hin : headInfo b = infoS (b.extract 2 b.size) := by unfold headInfo; rw [if_pos h4]
        have hok : headOk b = infoOk (b.extract 2 b.size) := by unfold headOk; rw [if_pos h4]
        have hre : headRest b = infoR (b.extract 2 b.size) := by unfold headRest; rw [if_pos h4]
        rw [← hin, ← hok, ← hre] at HI1
        rw [hcl]
        clear hq2 hq3 hcl hin hok hre
        go_wp2_with fail
        (with_reducible refine (HD.out _).mono ?_)
        rintro e9 w1 ⟨rfl, s1⟩
        have hr1 := s1.heap HR.out (by simp)
        have hlt := heap_lt hr1
        have S1 := Lib.hid (((Same.refl [] w).alloc (.cells #[.int .i64 0, .int .i64 0, .int .i64 0, .string ⟨#[]⟩, .slice none 0 0] 56)).trans_nil s1)
        have HR1 := Lib.hid hr1
        clear s1 hr1
        go_wp2_with fail
        go_region
        have hx0 := heap_alloc_new (w1.alloc (.cells #[.int .i64 t0, .bool p, .int .i64 e, .int .i64 v, .bool nw, .int .i64 nu, .int .i64 la, .string b] 124)) (.cells #[.int .i64 e, .int .i64 v, .int .i64 0, .string ⟨#[]⟩, .slice none 0 0] 56)
        rw [World.size_alloc] at hx0
        have HX0 := Lib.hid hx0
        have hb1 := ((Same.refl [] w1).alloc (.cells #[.int .i64 t0, .bool p, .int .i64 e, .int .i64 v, .bool nw, .int .i64 nu, .int .i64 la, .string b] 124)).alloc (.cells #[.int .i64 e, .int .i64 v, .int .i64 0, .string ⟨#[]⟩, .slice none 0 0] 56)
        have HB1 := Lib.hid hb1
        clear hx0 hb1
        all_goals
          go_wp2_with (first | (go_at_call 52; (with_reducible refine (HP1.out _).mono ?_); rintro e9 w9 ⟨rfl, s9⟩; have S9 := Lib.hid (Same.trans_nil HB1.out (Same.trans_nil (by repeat (first | exact Same.refl _ _ | refine Same.drew ?_)) s9)); have hx9 := s9.heap (show (World.drew _).heap[_]? = _ from HX0.out) (by simp); obtain ⟨x0, x1, x2, x3, x4, xf⟩ := pmt_cells hx9; have hxl := heap_lt hx9; have HX9 := Lib.hid hx9; clear s9 hx9) | (go_at_call 55; (with_reducible refine (HI1.out _).mono ?_); rintro e9 w10 ⟨rfl, s10⟩; have S10 := Lib.hid s10; have hx10 := s10.heap ((set_same HX9.out _).trans rfl) (by simp); clear x0 x1 x2 x3 x4 xf hxl; obtain ⟨x0, x1, x2, x3, x4, xf⟩ := pmt_cells hx10; have hxl := heap_lt hx10; have HX10 := Lib.hid hx10; clear s10 hx10))
          refine ⟨w1.heap.size, w1.heap.size + 1, w1.heap.size + 2, 0, .slice none 0 0, headRest b, headOk b, [], _, _, _, _, _, _, _, _, _, _, _, _, _, _, _, _, _, _, _, _, _, _, _, _, _, _, _, _, _, _, _, _, _, _, _, _, _, _, _, _, _, _, _, _, _, _, _, _, _, _, _, _, _, _, _, _, _, _, _, _, _, _, _, _, _, _, _, _, _, _, _, _, _, _, _, _, _, _, _, _, _, _, _, _, _, _, rfl, by show 5 * 0 + (headRest b).size ≤ (headRest b).size; omega, ⟨rfl, fun q hq => nomatch hq⟩, ?_, rfl⟩
          have T := ((S9.out.setCell (p := ⟨w1.heap.size + 1, 2, none⟩) (fun h => absurd h (by show ¬ (w1.heap.size + 1 < w1.heap.size); omega)) (.int .i64 (q3 : Int))).trans_nil S10.out).setCell (p := ⟨w1.heap.size + 1, 3, none⟩) (fun h => absurd h (by show ¬ (w1.heap.size + 1 < w1.heap.size); omega)) (.string (headInfo b))
          exact { same := S1.out.trans_nil T, res := T.heap HR1.out (by simp), head := (set_same HX10.out _).trans rfl, row := World.ownsRow_nil _ _ _ _, ne := ⟨by omega, by omega, Nat.le_refl _⟩, base := by rw [size_set]; omega }
      · have h4i : ¬ (4 : Int) ≤ (b.size : Int) := by omega
        have e1 : headRest b = b := if_neg h4
        have e2 : headOk b = false := if_neg h4
        have e3 : headCl b = 0 := if_neg h4
        have e4 : headInfo b = ⟨#[]⟩ := if_neg h4
        rw [e1, e2, e3, e4]
        clear e1 e2 e3 e4
        go_wp2_with fail
        (with_reducible refine (HD.out _).mono ?_)
        rintro e9 w1 ⟨rfl, s1⟩
        have hr1 := s1.heap HR.out (by simp)
        have hlt := heap_lt hr1
        have S1 := Lib.hid (((Same.refl [] w).alloc (.cells #[.int .i64 0, .int .i64 0, .int .i64 0, .string ⟨#[]⟩, .slice none 0 0] 56)).trans_nil s1)
        have HR1 := Lib.hid hr1
        clear s1 hr1
        go_wp2_with fail
        go_region
        all_goals
          go_wp2_with fail
          rw [show decide ((4 : Int) ≤ (b.size : Int)) = false from decide_eq_false (by omega)]
          refine ⟨w1.heap.size, w1.heap.size + 1, w1.heap.size + 2, 0, .slice none 0 0, b, false, [], _, _, _, _, _, _, _, _, _, _, _, _, _, _, _, _, _, _, _, _, _, _, _, _, _, _, _, _, _, _, _, _, _, _, _, _, _, _, _, _, _, _, _, _, _, _, _, _, _, _, _, _, _, _, _, _, _, _, _, _, _, _, _, _, _, _, _, _, _, _, _, _, _, _, _, _, _, _, _, _, _, _, _, _, _, _, rfl, by show 5 * 0 + b.size ≤ b.size; omega, ⟨rfl, fun q hq => nomatch hq⟩, ?_, rfl⟩
          have h1 := ((Same.refl [] w1).alloc (.cells #[.int .i64 t0, .bool p, .int .i64 e, .int .i64 v, .bool nw, .int .i64 nu, .int .i64 la, .string b] 124)).alloc (.cells #[.int .i64 e, .int .i64 v, .int .i64 0, .string ⟨#[]⟩, .slice none 0 0] 56)
          refine { same := S1.out.trans_nil h1.drew, res := h1.drew.heap HR1.out (by simp), head := ?_, row := World.ownsRow_nil _ _ _ _, ne := ⟨by omega, by omega, Nat.le_refl _⟩, base := by rw [drew_heap, World.size_alloc, World.size_alloc]; omega }
          have h2 := heap_alloc_new (w1.alloc (.cells #[.int .i64 t0, .bool p, .int .i64 e, .int .i64 v, .bool nw, .int .i64 nu, .int .i64 la, .string b] 124)) (.cells #[.int .i64 e, .int .i64 v, .int .i64 0, .string ⟨#[]⟩, .slice none 0 0] 56)
          rw [World.size_alloc] at h2
          exact h2
    · rintro a w2 ⟨S, X, N, k, sl, bb, ok, l, u1, u9, u10, u11, u12, u13, u14, u15, u16, u17, u18, u19, u20, u21, u22, u23, u24, u25, u26, u27, u28, u29, u30, u31, u32, u33, u34, u35, u36, u37, u38, u39, u40, u41, u42, u43, u44, u45, u46, u47, u48, u49, u50, u51, u52, u53, u54, u55, u56, u57, u58, u59, u60, u61, u62, u63, u64, u65, u66, u67, u68, u69, u70, u71, u72, u73, u74, u75, u76, u77, u78, u79, u80, u81, u82, u83, u84, u85, u86, u87, u88, u89, u90, u91, u92, u93, hst, hk, hlen, hpw, rfl⟩
      have HPW := Lib.hid hpw
      have HST := Lib.hid hst; have HLEN := Lib.hid hlen; have HK := Lib.hid hk
      obtain ⟨x0, x1, x2, x3, x4, xf⟩ := pmt_cells hpw.head
      obtain ⟨n1, n2, n3⟩ := hpw.ne
      have hXl := heap_lt hpw.head
      have hrest : (headRest b).size ≤ b.size := by
        unfold headRest; split
        · have h1 := size_infoR (b.extract 2 b.size); rw [ByteArray.size_extract] at h1; omega
        · exact Nat.le_refl _
      have hk9 : k ≤ 1000 := by have : 5 * k + bb.size ≤ (headRest b).size := hk; omega
      have hb9 : bb.size ≤ 1024 := by have : 5 * k + bb.size ≤ (headRest b).size := hk; omega
      have HREST := Lib.hid hrest
      obtain ⟨hl1, hl2⟩ := hlen
      clear hst hrest hk hl2
      by_cases h5 : ok = true ∧ 5 ≤ bb.size
      · obtain ⟨rfl, h5⟩ := h5
        have h5i : (5 : Int) ≤ (bb.size : Int) := by omega
        have h1i : (1 : Int) ≤ (bb.size : Int) := by omega
        have h3i : (3 : Int) ≤ (bb.size : Int) := by omega
        have h0i : (0 : Int) < (bb.size : Int) := by omega
        have ez1 : (bb.extract 1 bb.size).size = bb.size - 1 := by rw [ByteArray.size_extract]; omega
        have ez3 : (bb.extract 3 bb.size).size = bb.size - 3 := by rw [ByteArray.size_extract]; omega
        have HP1 := Lib.hid (fun W => pair_fn (bb.extract 1 bb.size) W (by omega))
        have HI1 := Lib.hid (fun W => info_fn (bb.extract 3 bb.size) W (by omega))
        have b0 := byteOf_at bb 0 (by omega)
        have l0 := byteOf_lt' bb 0
        have han := andNot_pid (pairN (bb.extract 1 bb.size)) (pairN_lt _)
        have hnext := stP_next (s := (headRest b, headOk b, [])) (k := k) (by rw [HST.out]; show (true && decide (5 ≤ bb.size)) = true; simp [h5])
        rw [HST.out] at hnext
        have hnx : nextP (bb, true, l) = (infoR (bb.extract 3 bb.size), infoOk (bb.extract 3 bb.size), l ++ [⟨(byteOf bb 0 : Nat), ((pairN (bb.extract 1 bb.size) % 8192 : Nat) : Int), infoS (bb.extract 3 bb.size)⟩]) := rfl
        rw [hnx] at hnext
        have hrs := rest_size bb h5
        have hqz : (infoS (bb.extract 3 bb.size)).size ≤ 1024 := by have := size_infoS (bb.extract 3 bb.size); omega
        obtain ⟨q1, hq1⟩ : ∃ q, q = pairN (bb.extract 1 bb.size) := ⟨_, rfl⟩
        obtain ⟨x, hx⟩ : ∃ q, q = byteOf bb 0 := ⟨_, rfl⟩
        obtain ⟨qi, hqi⟩ : ∃ q, q = infoS (bb.extract 3 bb.size) := ⟨_, rfl⟩
        obtain ⟨qr, hqr⟩ : ∃ q, q = infoR (bb.extract 3 bb.size) := ⟨_, rfl⟩
        obtain ⟨qo, hqo⟩ : ∃ q, q = infoOk (bb.extract 3 bb.size) := ⟨_, rfl⟩
        rw [← hq1] at HP1 han hnext
        rw [← hx] at b0 l0 hnext
        rw [← hqi] at HI1 hnext hqz
        rw [← hqr] at HI1 hnext hrs
        rw [← hqo] at HI1 hnext
        obtain ⟨q3, hq3⟩ : ∃ q3, q3 = q1 % 8192 := ⟨_, rfl⟩
        rw [← hq3] at han hnext
        have hwx : IntKind.i64.wrap (x : Int) = (x : Int) := IntWalk.i64_in _ (by omega)
        have HNEXT := Lib.hid hnext; have HRS := Lib.hid hrs; have HQZ := Lib.hid hqz
        obtain ⟨ad, cp, rfl⟩ := own_form hpw.row
        have m1 : l.length + 1 ≤ maxLen := by unfold maxLen; omega
        have n9 : (l.length + 1) * 32 ≤ 140737488355328 := by omega
        have hnxm : X ∉ (Value.slice ad l.length cp).ownBlock.toList := fun hm => by have := (World.ownsRow.lt HPW.out.row X (by simpa using hm)).1; omega
        have HNX := Lib.hid hnxm
        clear hnext hnx hrs hqz hq1 hx hqi hqr hqo hq3 hpw hnxm l0 hl1
        go_wp2_with fail
        have S9 := Lib.hid (Same.refl [] w2)
        obtain ⟨i0, hi, hz0, hz1, hz2⟩ := info_parts Tryz.infoSt
        go_cut [9] (fun s9 wx => ∃ O : Nat, s9 = .pointer (some ⟨O, 0, none⟩) ∧ Same [] w2 wx ∧ w2.heap.size ≤ O ∧ wx.heap[O]? = some (.cells #[.int .i64 (x : Int), .int .i64 (q3 : Int), .string ⟨#[]⟩] 53 (0, 0)))
        case first =>
          go_region_with (go_at_call 52; (with_reducible refine (HP1.out _).mono ?_); rintro e9 w9 ⟨rfl, s9⟩; have S9 := Lib.hid (show Same [] w2 w9 from Same.trans_nil (by repeat (first | exact S9.out | exact Same.refl _ _ | refine Same.drew ?_ | refine Same.alloc ?_ _)) s9); obtain ⟨sc1, sc2⟩ := scell s9; have hz9 := s9.size; (try simp only [drew_heap, World.size_alloc] at hz9 sc1 sc2); (try (have hO9 := s9.heap (show (World.drew _).heap[_]? = _ from heap_alloc_new _ _) (by simp); have HO9 := Lib.hid hO9; clear hO9)); clear s9)
          all_goals
            go_wp2_with fail
            go_meet
            first
              | exact ⟨_, rfl, S9.out.alloc _, hz9, heap_alloc_new _ _⟩
              | exact ⟨_, rfl, ((S9.out.setCell (fun h => absurd h (Nat.lt_irrefl _)) _).setCell (fun h => absurd h (Nat.lt_irrefl _)) _).setCell (fun h => absurd h (Nat.lt_irrefl _)) _, Nat.le_refl _, (set_same (set_same (set_same HO9.out _) _) _).trans rfl⟩
        case rest =>
          obtain ⟨O, rfl, hs9, hO9, hob⟩ := hcut
          rename World => wx
          have HS9 := Lib.hid hs9; have HOB := Lib.hid hob
          have hXO : X ≠ O := by omega
          have hOX : O ≠ X := by omega
          clear x0 x1 x2 x3 x4 xf hs9 hob
          go_wp2_with (first | (go_at_call 55; (with_reducible refine (HI1.out _).mono ?_); rintro e9 w10 ⟨rfl, s10⟩; have S10 := Lib.hid (HS9.out.trans_nil s10); have ho10 := s10.heap HOB.out (by simp); obtain ⟨o0, o1, o2, of⟩ := st_cells ho10; have HO10 := Lib.hid ho10; have hOl := heap_lt ho10; have hx10 := S10.out.heap HPW.out.head (by simp); obtain ⟨x0, x1, x2, x3, x4, xf⟩ := pmt_cells hx10; have T10 := Lib.hid (S10.out.setCell (p := ⟨O, 2, none⟩) (fun h => absurd h (by show ¬ (O < w2.heap.size); omega)) (.string qi)); clear s10 ho10 hx10) | (at_builtin; refine wpList_append_src rfl (.tmp 68) (.tmp 70) 54 rfl N 53 i0 (.agg #[.int .i64 0, .int .i64 0, .string ⟨#[]⟩]) 3 32 Tryz.underlying54 hi hz0 hz1 hz2 stZ_cells (by decide) _ l.length (stL l) rfl (by exact own_same (S := []) HPW.out.row (T10.out.alloc _) (fun _ _ h => nomatch h)) _ 1 (stV ⟨(x : Int), (q3 : Int), qi⟩) rfl (by have h8 := reads_st (w10.setCell ⟨O, 2, none⟩ (.string qi)) (x : Int) (q3 : Int) qi; rw [size_set] at h8; exact h8) (one_stV _) m1 n9 (by have h1 := T10.out.size; have h2 := HPW.out.base; simp only [World.size_alloc]; omega) ?_; intro v4 w7 hown hgrow hat; obtain ⟨ad7, cp7, rfl⟩ := own_form hown; have hh7 := (Same.of_grown hgrow).heap (Same.heap (S := []) (T10.out.alloc _) HPW.out.head (by simp)) HNX.out; have k4 : w7.cell? ⟨X, 4, none⟩ = some (.slice ad l.length cp) := cell_of hh7 4; have f4 := free_of hh7 4; have HOWN := Lib.hid hown; have HGW := Lib.hid hgrow; have HAT := Lib.hid hat; have HH7 := Lib.hid hh7; clear hown hgrow hat hh7))
          have hpw2 := HPW.out.push (p := ⟨(x : Int), (q3 : Int), qi⟩) (T10.out.alloc _) HOWN.out HGW.out
          go_step3
          refine ⟨rfl, ⟨S, X, N, k + 1, .slice ad7 (l.length + 1) cp7, qr, qo, l ++ [⟨(x : Int), (q3 : Int), qi⟩], _, _, _, _, _, _, _, _, _, _, _, _, _, _, _, _, _, _, _, _, _, _, _, _, _, _, _, _, _, _, _, _, _, _, _, _, _, _, _, _, _, _, _, _, _, _, _, _, _, _, _, _, _, _, _, _, _, _, _, _, _, _, _, _, _, _, _, _, _, _, _, _, _, _, _, _, _, _, _, _, _, _, _, _, _, _, HNEXT.out, ?_, ⟨?_, ?_⟩, hpw2, rfl⟩, ?_⟩
          · show 5 * (k + 1) + qr.size ≤ (headRest b).size
            have h1 : 5 * k + bb.size ≤ (headRest b).size := HK.out
            have h2 := HRS.out
            omega
          · rw [List.length_append, HLEN.out.1]; rfl
          · intro q hq
            rcases List.mem_append.1 hq with h | h
            · exact HLEN.out.2 q h
            · rw [List.mem_singleton] at h; subst h; exact HQZ.out
          · show qr.size < bb.size
            have h2 := HRS.out
            omega
      · have hgo : goOn (stP (headRest b, headOk b, []) k) = false := by
          rw [HST.out]
          show (ok && decide (5 ≤ bb.size)) = false
          cases ok with
          | false => rfl
          | true => rw [decide_eq_false (fun h => h5 ⟨rfl, h⟩)]; rfl
        have hfin : pmtFin b = (bb, ok, l) := by
          unfold pmtFin
          rw [finP_eq hgo (by have h1 : 5 * k + bb.size ≤ (headRest b).size := HK.out; omega)]
          exact HST.out
        obtain ⟨r0, r1, r2, r3, r4, rf⟩ := pmt_cells hpw.res
        have hRX : w.heap.size ≠ X := by omega
        by_cases hz : ok = true ∧ bb.size = 0
        · obtain ⟨rfl, hz⟩ := hz
          obtain ⟨em1, em2⟩ := empty_is bb hz
          have h5i : ¬ (5 : Int) ≤ (bb.size : Int) := by omega
          have hPV := strs_of_own hpw.row
          have hwell : pmtWell (bodyS (openS t)) := by rw [← HV3.out]; unfold pmtWell; rw [hfin]; exact ⟨rfl, hz⟩
          obtain ⟨zr, hzr⟩ : ∃ zr, zr = encPmt e v (headCl b) (headInfo b) l := ⟨_, rfl⟩
          have hIz : (headInfo b).size ≤ 5000 := by
            unfold headInfo
            split
            · have h1 := size_infoS (b.extract 2 b.size); rw [ByteArray.size_extract] at h1; omega
            · exact Nat.zero_le _
          have HENC := Lib.hid (by have h9 := encodePmt_fn e v (headCl b) (headInfo b) l sl w2 hPV (by omega) hIz (fun q hq => Nat.le_trans (HLEN.out.2 q hq) (by decide)); rw [← hzr] at h9; exact h9)
          obtain ⟨zs, ze⟩ := zr
          have hpe : pmtEnc t = (zs, ze) := by unfold pmtEnc; rw [← HV1.out, ← HV2.out, ← HV3.out, hfin]; exact hzr.symm
          have HPE := Lib.hid hpe; have HWELL := Lib.hid hwell; have HFIN := Lib.hid hfin
          obtain ⟨ad, cp, rfl⟩ := own_form hpw.row
          clear hpw hgo hfin hPV hwell hzr hIz hpe hz h5 r0 r1 r2 r3 r4 rf hl1
          go_wp2_with fail
          (with_reducible refine HENC.out.mono ?_)
          rintro e9 w3 ⟨rfl, s3⟩
          have hres3 := s3.heap HPW.out.res (by simp)
          have hhead3 := s3.heap HPW.out.head (by simp)
          have S3 := Lib.hid (HPW.out.same.trans_nil s3)
          have hrow3 := own_same (S := []) HPW.out.row s3 (fun _ _ => by simp)
          have HROW3 := Lib.hid hrow3
          clear s3 x0 x1 x2 x3 x4 xf hrow3 em1 em2
          obtain ⟨x0, x1, x2, x3, x4, xf⟩ := pmt_cells hhead3
          obtain ⟨r0, r1, r2, r3, r4, rf⟩ := pmt_cells hres3
          have hbad : ¬ (zs = t ∧ ze = 0) → (openedE t 2 = 0 → pmtWell (bodyS (openS t)) → pmtEnc t ≠ (t, 0)) := fun hn _ _ he => by
            rw [HPE.out] at he
            injection he with h1 h2
            exact hn ⟨h1, h2⟩
          have HBAD := Lib.hid hbad
          clear hbad
          by_cases hze : ze = 0
          · subst hze
            by_cases hzt : zs = t
            · subst hzt
              have hzz : (zs.toList != zs.toList) = false := by simp
              have hch := pmt_chain hres3 S3.out (Nat.le_refl _) (.int .i64 e) (.int .i64 v) (.int .i64 (headCl b)) (.string (headInfo b)) (.slice ad l.length cp)
              clear hres3 hhead3
              go_wp2_with fail
              clear r0 r1 r2 r3 r4 rf
              obtain ⟨hc1, hc2, hc3⟩ := hch
              obtain ⟨k0, k1, k2, k3, k4, _⟩ := pmt_cells hc1
              simp only [jump1]
              refine bodyPost_ret (v := .tuple #[.agg #[.int .i64 e, .int .i64 v, .int .i64 (headCl b), .string (headInfo b), .slice ad l.length cp], .int .i64 0]) ?_ rfl ⟨hc2, .inl ⟨H0.out, .slice ad l.length cp, by rw [← HV1.out, ← HV2.out, ← HV3.out], HWELL.out, by rw [← HV3.out, HFIN.out]; exact strs_of_own (own_same HROW3.out hc3 (fun q hq hm => by have := (World.ownsRow.lt HROW3.out q hq).1; rw [List.mem_singleton] at hm; omega)), HPE.out⟩⟩
              simp [results, Tryz.results19, go_sem, k0, k1, k2, k3, k4]
            · have hzz1 : (zs.toList == t.toList) = false := by rw [beq_eq_false_iff_ne]; exact fun h => hzt (toList_inj h)
              have hzz : (!(zs.toList == t.toList)) = true := by rw [hzz1]; rfl
              have hch := pmt_chain hres3 S3.out (Nat.le_refl _) (.int .i64 0) (.int .i64 0) (.int .i64 0) (.string ⟨#[]⟩) (.slice none 0 0)
              clear hres3 hhead3
              go_wp2_with fail
              clear r0 r1 r2 r3 r4 rf
              obtain ⟨hc1, hc2, hc3⟩ := hch
              obtain ⟨k0, k1, k2, k3, k4, _⟩ := pmt_cells hc1
              simp only [jump1]
              refine bodyPost_ret (v := .tuple #[.agg #[.int .i64 0, .int .i64 0, .int .i64 0, .string ⟨#[]⟩, .slice none 0 0], .int .i64 12]) ?_ rfl ⟨hc2, .inr ⟨12, by decide, rfl, HBAD.out (fun h => hzt h.1)⟩⟩
              simp [results, Tryz.results19, go_sem, k0, k1, k2, k3, k4]
          · have hzi : (ze != 0) = true := by simpa using hze
            have hch := pmt_chain hres3 S3.out (Nat.le_refl _) (.int .i64 0) (.int .i64 0) (.int .i64 0) (.string ⟨#[]⟩) (.slice none 0 0)
            clear hres3 hhead3
            go_wp2_with fail
            clear r0 r1 r2 r3 r4 rf
            obtain ⟨hc1, hc2, hc3⟩ := hch
            obtain ⟨k0, k1, k2, k3, k4, _⟩ := pmt_cells hc1
            simp only [jump1]
            refine bodyPost_ret (v := .tuple #[.agg #[.int .i64 0, .int .i64 0, .int .i64 0, .string ⟨#[]⟩, .slice none 0 0], .int .i64 12]) ?_ rfl ⟨hc2, .inr ⟨12, by decide, rfl, HBAD.out (fun h => hze h.2)⟩⟩
            simp [results, Tryz.results19, go_sem, k0, k1, k2, k3, k4]
        · have hnw : ¬ pmtWell (bodyS (openS t)) := by rw [← HV3.out]; unfold pmtWell; rw [hfin]; exact hz
          have HNW := Lib.hid hnw
          clear hnw hgo hfin
          by_cases hok : ok = true
          · subst hok
            obtain ⟨em1, em2⟩ := nonempty bb (by refine Nat.pos_of_ne_zero fun h => hz ⟨rfl, h⟩)
            have h5i : ¬ (5 : Int) ≤ (bb.size : Int) := by have : ¬ 5 ≤ bb.size := fun h => h5 ⟨rfl, h⟩; omega
            have hch := pmt_chain hpw.res hpw.same (Nat.le_refl _) (.int .i64 0) (.int .i64 0) (.int .i64 0) (.string ⟨#[]⟩) (.slice none 0 0)
            clear hpw hz h5
            go_wp2_with fail
            clear r0 r1 r2 r3 r4 rf
            obtain ⟨hc1, hc2, hc3⟩ := hch
            obtain ⟨k0, k1, k2, k3, k4, _⟩ := pmt_cells hc1
            simp only [jump1]
            refine bodyPost_ret (v := .tuple #[.agg #[.int .i64 0, .int .i64 0, .int .i64 0, .string ⟨#[]⟩, .slice none 0 0], .int .i64 10]) ?_ rfl ⟨hc2, .inr ⟨10, by decide, rfl, fun _ h => absurd h HNW.out⟩⟩
            simp [results, Tryz.results19, go_sem, k0, k1, k2, k3, k4]
          · obtain rfl : ok = false := by simpa using hok
            clear hok
            have hch := pmt_chain hpw.res hpw.same (Nat.le_refl _) (.int .i64 0) (.int .i64 0) (.int .i64 0) (.string ⟨#[]⟩) (.slice none 0 0)
            clear hpw hz h5
            go_wp2_with fail
            clear r0 r1 r2 r3 r4 rf
            obtain ⟨hc1, hc2, hc3⟩ := hch
            obtain ⟨k0, k1, k2, k3, k4, _⟩ := pmt_cells hc1
            simp only [jump1]
            refine bodyPost_ret (v := .tuple #[.agg #[.int .i64 0, .int .i64 0, .int .i64 0, .string ⟨#[]⟩, .slice none 0 0], .int .i64 10]) ?_ rfl ⟨hc2, .inr ⟨10, by decide, rfl, fun _ h => absurd h HNW.out⟩⟩
            simp [results, Tryz.results19, go_sem, k0, k1, k2, k3, k4]
  · have h0i : (oe != 0) = true := by rw [hoe]; simpa using h0
    rw [if_neg h0] at hov
    rw [hov, ← hoe] at HD
    unfold secZ at HD
    have HE := Lib.hid (show oe ≠ 0 by rw [hoe]; exact h0)
    have H0 := Lib.hid h0
    clear hsh hval hov hoe hde h0
    go_enter Tryz.func19, Tryz.ntmps19
    go_wp2_with fail
    refine wp_scope_one 0 (fun _ _ => False) (fun _ _ => 0) rfl ?_ (fun _ _ h => h.elim)
    simp only [wpAll]
    go_wp2_with fail
    (with_reducible refine (HD.out _).mono ?_)
    rintro e9 w1 ⟨rfl, s1⟩
    have hr1 := s1.heap HR.out (by simp)
    have hlt := heap_lt hr1
    have S1 := Lib.hid (((Same.refl [] w).alloc (.cells #[.int .i64 0, .int .i64 0, .int .i64 0, .string ⟨#[]⟩, .slice none 0 0] 56)).trans_nil s1)
    clear s1
    obtain ⟨r0, r1, r2, r3, r4, rf⟩ := pmt_cells hr1
    have hch := pmt_chain hr1 S1.out (Nat.le_refl _) (.int .i64 0) (.int .i64 0) (.int .i64 0) (.string ⟨#[]⟩) (.slice none 0 0)
    clear hr1
    go_wp2_with fail
    clear r0 r1 r2 r3 r4 rf
    obtain ⟨hc0, hc3, _⟩ := hch
    have hc1 := ((Same.refl [] _).alloc (.cells #[.int .i64 0, .bool false, .int .i64 0, .int .i64 0, .bool false, .int .i64 0, .int .i64 0, .string ⟨#[]⟩] 124)).heap hc0 (by simp)
    have hc2 := hc3.alloc (.cells #[.int .i64 0, .bool false, .int .i64 0, .int .i64 0, .bool false, .int .i64 0, .int .i64 0, .string ⟨#[]⟩] 124)
    clear hc0 hc3
    obtain ⟨k0, k1, k2, k3, k4, _⟩ := pmt_cells hc1
    simp only [noJump]
    refine bodyPost_ret (v := .tuple #[.agg #[.int .i64 0, .int .i64 0, .int .i64 0, .string ⟨#[]⟩, .slice none 0 0], .int .i64 oe]) ?_ rfl ⟨hc2, .inr ⟨oe, HE.out, rfl, fun h => absurd h H0.out⟩⟩
    simp [results, Tryz.results19, go_sem, k0, k1, k2, k3, k4]
end Go.Proofs.YtpkpfebhdgbgbaaGreatDoor.S
