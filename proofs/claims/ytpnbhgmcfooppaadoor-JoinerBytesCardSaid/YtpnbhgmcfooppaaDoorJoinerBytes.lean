/- The walk of the law JoinerBytes: whatever pieces and place, it answers true. Condition: the table 'widths' (block 0) holds what its initialiser lays. -/
import Derived.Test.YtpnbhgmcfooppaaDoorPk3
import Derived.Test.YtpnbhgmcfooppaaDoorPk2
namespace Go.Proofs.YtpnbhgmcfooppaaDoor
open Go.RowKit
set_option linter.unusedSimpArgs false
set_option linter.unusedVariables false

theorem rdecode_ok (s : ByteArray) (w : World) (h : decE s = 0) : Calls Tryd.prog 13 #[.string s] w fun e w' => e = .returned (.tuple #[.agg #[.int .i64 (byteOf s 1 % 32 * 256 + byteOf s 2 : Nat), .bool (byteOf s 1 / 64 % 2 == 1), .int .i64 (byteOf s 3 % 16 : Nat), .bool (byteOf s 1 / 128 == 1), .string (decB s)], .int .i64 0]) ∧ Same [] w w' :=
  (rdecode_any s w).mono fun e w' ⟨h1, h2⟩ => ⟨by rw [h2, if_pos h, h]; rfl, h1⟩
theorem rdecode_bad (s : ByteArray) (w : World) (h : decE s ≠ 0) : Calls Tryd.prog 13 #[.string s] w fun e w' => e = .returned (.tuple #[.agg #[.int .i64 0, .bool false, .int .i64 0, .bool false, .string ⟨#[]⟩], .int .i64 (decE s)]) ∧ Same [] w w' :=
  (rdecode_any s w).mono fun e w' ⟨h1, h2⟩ => ⟨by rw [h2, if_neg h]; rfl, h1⟩

theorem jheld_any {w : World} {b : Nat} {pid : Int} {S : JS} (h : IsJS w b pid S) : Calls Tryd.prog 11 #[.pointer (some ⟨b, 0, none⟩)] w fun e w' => e = .returned (.string S.hold) ∧ w = w' := held_any h
theorem jlost_any {w : World} {b : Nat} {pid : Int} {S : JS} (h : IsJS w b pid S) : Calls Tryd.prog 9 #[.pointer (some ⟨b, 0, none⟩)] w fun e w' => e = .returned (.int .i64 S.lost) ∧ w = w' := lost_any h
theorem dheld_any {w : World} {b : Nat} {pid : Int} {S : JS} (h : IsJS w b pid (dropS S)) : Calls Tryd.prog 11 #[.pointer (some ⟨b, 0, none⟩)] w fun e w' => e = .returned (.string ⟨#[]⟩) ∧ w = w' := held_any h
theorem dlost_any {w : World} {b : Nat} {pid : Int} {S : JS} (h : IsJS w b pid (dropS S)) : Calls Tryd.prog 9 #[.pointer (some ⟨b, 0, none⟩)] w fun e w' => e = .returned (.int .i64 S.lost) ∧ w = w' := lost_any h
theorem qheld {w : World} {b : Nat} {pid : Int} {S : JS} (h : IsJS w b pid S) (m : Nat) : Calls Tryd.prog 11 #[.pointer (some ⟨b, 0, none⟩)] (w.drewN m) fun e w' => e = .returned (.string S.hold) ∧ w' = w.drewN m :=
  (jheld_any (IsJS.same h (Same.drewN _ m) (by simp))).mono fun e w' ⟨x1, x2⟩ => ⟨x1, x2.symm⟩
theorem qlost {w : World} {b : Nat} {pid : Int} {S : JS} (h : IsJS w b pid S) (m : Nat) : Calls Tryd.prog 9 #[.pointer (some ⟨b, 0, none⟩)] (w.drewN m) fun e w' => e = .returned (.int .i64 S.lost) ∧ w' = w.drewN m :=
  (jlost_any (IsJS.same h (Same.drewN _ m) (by simp))).mono fun e w' ⟨x1, x2⟩ => ⟨x1, x2.symm⟩

theorem jbytes_badx {w : World} {b : Nat} {pid : Int} {S : JS} (s : ByteArray) (hj : IsJS w b pid S) (ht : Tab w) (h : decE s ≠ 0) :
    Calls Tryd.prog 12 #[.pointer (some ⟨b, 0, none⟩), .string s] w fun e w' => e = .returned (.tuple #[.slice none 0 0, .int .i64 (decE s)]) ∧ IsJS w' b pid S ∧ Same [] w w' := by
  have HD := Lib.hid (decode_bad s w ht h)
  have HJ := Lib.hid hj
  have hne : (decE s != 0) = true := by simp; exact h
  clear hj ht h
  generalize decE s = d at *
  go_enter Tryd.func12, Tryd.ntmps12
  go_wp2_with fail
  (with_reducible refine HD.out.mono ?_)
  rintro e w1 ⟨rfl, s1⟩
  have S1 := Lib.hid s1
  clear s1 HD
  go_wp2_with fail
  go_ret2
  exact ⟨rfl, IsJS.same HJ.out (S1.out.alloc _) (by simp), S1.out.alloc _⟩

/-- What both joiners are, in the midst of the loop. -/
def Both (w wr : World) (A B : Nat) (k : Nat) : Prop := ∃ S : JS, IsJS wr A 17 S ∧ IsJS wr B 17 S ∧ JOk S (300 * k) ∧ Same [] w wr

set_option maxRecDepth 100000 in
set_option maxHeartbeats 8000000 in
theorem joinerBytes_any (v : Value) (xs : List ByteArray) (drop : Int) (w : World) (hx : StrsAt w v xs) (ht : Tab w) :
    Calls Tryd.prog 3 #[v, .int .i64 drop] w (AwakePost w) := by
  obtain ⟨ad, cp, rfl, hlc, hcm, hcell⟩ := hx
  have HC := Lib.hid hcell
  have HT := Lib.hid ht
  have h0 := ht.lt
  clear hcell ht
  go_enter Tryd.func3, Tryd.ntmps3
  go_wp2_with fail
  (with_reducible refine (jnew_ok 17 _ (by decide) (by decide)).mono ?_)
  rintro e w1 ⟨rfl, rfl⟩
  have hj : IsJS (w.alloc (.cells (jV 17 ⟨#[]⟩ false 0 ⟨#[]⟩ 0) 59)) w.heap.size 17 newS := heap_alloc_new w _
  have hs : Same [] w (w.alloc (.cells (jV 17 ⟨#[]⟩ false 0 ⟨#[]⟩ 0) 59)) := (Same.refl [] w).alloc _
  have hsz : (w.alloc (.cells (jV 17 ⟨#[]⟩ false 0 ⟨#[]⟩ 0) 59)).heap.size = w.heap.size + 1 := World.size_alloc _ _
  generalize w.alloc (.cells (jV 17 ⟨#[]⟩ false 0 ⟨#[]⟩ 0) 59) = w1 at *
  have HJ := Lib.hid hj; have HS := Lib.hid hs; have HZ := Lib.hid hsz
  clear hj hs hsz
  go_wp2_with fail
  (with_reducible refine (jnew_ok 17 _ (by decide) (by decide)).mono ?_)
  rintro e w2 ⟨rfl, rfl⟩
  have hr : IsJS (w1.alloc (.cells (jV 17 ⟨#[]⟩ false 0 ⟨#[]⟩ 0) 59)) w1.heap.size 17 newS := heap_alloc_new w1 _
  have hs2 : Same [] w1 (w1.alloc (.cells (jV 17 ⟨#[]⟩ false 0 ⟨#[]⟩ 0) 59)) := (Same.refl [] w1).alloc _
  have hj2 := IsJS.same HJ.out hs2 (by simp)
  obtain ⟨B, hB⟩ : ∃ B, B = w1.heap.size := ⟨_, rfl⟩
  rw [← hB] at hr ⊢
  have hB2 : w.heap.size < B := by rw [hB]; have := HZ.out; omega
  generalize w1.alloc (.cells (jV 17 ⟨#[]⟩ false 0 ⟨#[]⟩ 0) 59) = w2 at *
  have HB := Lib.hid (show Both w w2 w.heap.size B 0 from ⟨newS, hj2, hr, new_ok, HS.out.trans_nil hs2⟩)
  clear hr hs2 hj2 hB HJ HS HZ
  by_cases hl : 30 < xs.length
  · have hl2 : (30 : Int) < (xs.length : Int) := by omega
    obtain ⟨S0, _, _, _, hs⟩ := HB.out
    have HS := Lib.hid hs
    clear hs
    go_wp2_with (go_at_call 8; (with_reducible refine (awake_any _).mono ?_); rintro e w' ⟨rfl, hs⟩; have HS2 := Lib.hid hs; clear hs)
    go_ret
    exact ⟨rfl, HS.out.trans_nil HS2.out⟩
  · have hl2 : ¬ (30 : Int) < (xs.length : Int) := by omega
    go_wp2_with fail
    go_loopw [9] (fun i wr => ∃ (k : Nat), k ≤ xs.length ∧ i = .int .i64 k ∧ Both w wr w.heap.size B k) (fun i _ => xs.length - (intOf i).toNat)
    case atStart => exact ⟨0, by omega, rfl, HB.out⟩
    case round =>
      obtain ⟨k, hk, rfl, hbo⟩ := hrel
      obtain ⟨S, hja, hjb, hok, hs⟩ := hbo
      have HA := Lib.hid hja; have HB2 := Lib.hid hjb; have HK := Lib.hid hok; have HS := Lib.hid hs
      clear hja hjb hok hs HB
      by_cases hk1 : k < xs.length
      · have hk2 : (k : Int) < (xs.length : Int) := by omega
        obtain ⟨a, rfl, hsp, c0⟩ := HC.out k hk1
        obtain ⟨g, o, sp⟩ := a
        simp only at hsp c0
        subst hsp
        have hg : g < w.heap.size := World.block_lt_of_cell? w _ c0
        obtain ⟨s, hss⟩ : ∃ s, s = xs[k] := ⟨_, rfl⟩
        rw [← hss] at c0
        clear hss
        have C0 := Lib.hid c0
        have c1 := HS.out.cell c0 (by simp)
        have hts := HS.out.size
        clear c0
        by_cases hb : 300 < s.size
        · have hb2 : (300 : Int) < (s.size : Int) := by omega
          go_wp2_with (go_at_call 8; (with_reducible refine (awake_any _).mono ?_); rintro e w' ⟨rfl, hs⟩; have HA := Lib.hid hs; clear hs)
          go_ret
          exact ⟨rfl, HS.out.trans_nil HA.out⟩
        · have hb2 : ¬ (300 : Int) < (s.size : Int) := by omega
          have hBl : B < wr.heap.size := heap_lt HB2.out
          clear hb
          by_cases hd : (k : Int) = drop
          · have hdq : ((k : Int) == drop) = true := by simp; exact hd
            clear hd
            have hlq : (S.lost != S.lost) = false := by simp
            go_wp2_with fail
            (with_reducible refine (jlost_any HA.out).mono ?_)
            rintro e wx ⟨rfl, rfl⟩
            go_wp2_with fail
            (with_reducible refine (jdrop_any HA.out).mono ?_)
            rintro e w3 ⟨rfl, ja3, s3⟩
            have S3 := Lib.hid (((HS.out.mono (T := [w.heap.size]) (by simp)).trans s3 (fun x hx _ => hx)).mono (T := []) (fun x hx hlt => by simp at hx; omega))
            have JB3 := Lib.hid (IsJS.same HB2.out s3 (by simp; omega))
            have JA3 := Lib.hid ja3
            have hz3 := s3.size
            clear ja3 s3 c1
            go_wp2_with fail
            (with_reducible refine (jdrop_any JB3.out).mono ?_)
            rintro e w4 ⟨rfl, jb4, s4⟩
            have S4 := Lib.hid (((S3.out.mono (T := [B]) (by simp)).trans s4 (fun x hx _ => hx)).mono (T := []) (fun x hx hlt => by simp at hx; omega))
            have JA4 := Lib.hid (IsJS.same JA3.out s4 (by simp; omega))
            have JB4 := Lib.hid jb4
            have hz4 := s4.size
            have OK4 := Lib.hid (drop_ok HK.out)
            have hdl : (dropS S).lost = S.lost := rfl
            clear jb4 s4
            go_upto_region 16 with (first
              | (go_at_call 11; (with_reducible refine (dheld_any JA4.out).mono ?_); rintro e w' ⟨rfl, rfl⟩)
              | (go_at_call 9; (with_reducible refine (dlost_any JA4.out).mono ?_); rintro e w' ⟨rfl, rfl⟩))
            obtain ⟨T, hT⟩ : ∃ T, T = dropS S := ⟨_, rfl⟩
            have JA := Lib.hid JA4.out; have JB := Lib.hid JB4.out; have OK := Lib.hid OK4.out; have SW := Lib.hid S4.out
            rw [← hT] at JA JB OK
            clear hT JA4 JB4 OK4 S4 JA3 JB3 S3
            obtain ⟨WW, hWW⟩ : ∃ WW, WW = w4 := ⟨_, rfl⟩
            subst hWW
            go_wp2_with fail
            (with_reducible refine (jheld_any JA.out).mono ?_)
            rintro e wx ⟨rfl, rfl⟩
            have c2 := SW.out.cell C0.out (by simp)
            have TW := Lib.hid (HT.out.same SW.out (by simp))
            have hzw := SW.out.size
            have hBw : B < WW.heap.size := heap_lt JB.out
            have hK := hk1
            by_cases hd : decE s = 0
            · have HDa := Lib.hid (jbytes_ok s JA.out OK.out (by omega) TW.out hd)
              have HDr := Lib.hid (fun W => rdecode_ok s W hd)
              have HFb := Lib.hid (fun W (h : IsJS W B 17 T) => jfeed_any (byteOf s 1 % 32 * 256 + byteOf s 2 : Nat) (byteOf s 1 / 64 % 2 == 1) (byteOf s 3 % 16 : Nat) (byteOf s 1 / 128 == 1) (decB s) h OK.out (by omega))
              have HOK := Lib.hid ((feed_ok OK.out 17 (byteOf s 1 % 32 * 256 + byteOf s 2 : Nat) (byteOf s 1 / 64 % 2 == 1) (byteOf s 3 % 16 : Nat) (byteOf s 1 / 128 == 1) (decB s)).more (m := 300 * (k + 1)) (by omega))
              have HLN := Lib.hid (feed_len OK.out 17 (byteOf s 1 % 32 * 256 + byteOf s 2 : Nat) (byteOf s 1 / 64 % 2 == 1) (byteOf s 3 % 16 : Nat) (byteOf s 1 / 128 == 1) (decB s))
              generalize ((byteOf s 1 % 32 * 256 + byteOf s 2 : Nat) : Int) = x0 at *
              generalize (byteOf s 1 / 64 % 2 == 1) = x1 at *
              generalize ((byteOf s 3 % 16 : Nat) : Int) = x2 at *
              generalize (byteOf s 1 / 128 == 1) = x3 at *
              generalize decB s = x4 at *
              generalize feedG 17 T x0 x1 x2 x3 x4 = r at *
              obtain ⟨rs, rl, re⟩ := r
              clear hd
              go_wp2_with fail
              (with_reducible refine HDa.out.mono ?_)
              rintro e w5 ⟨v1, rfl, n1, j5, s5⟩
              have S5 := Lib.hid (((SW.out.mono (T := [w.heap.size]) (by simp)).trans s5 (fun x hx _ => hx)).mono (T := []) (fun x hx hlt => by simp at hx; omega))
              have J5 := Lib.hid (show IsJS w5 w.heap.size 17 rs from j5)
              have B5 := Lib.hid (IsJS.same JB.out s5 (by simp; omega))
              have O5 := Lib.hid n1
              have hz5 := s5.size
              clear n1 j5 s5 HDa c2
              (try clear c1)
              have c3 := S5.out.cell C0.out (by simp)
              go_wp2_with fail
              (with_reducible refine (HDr.out _).mono ?_)
              rintro e w6 ⟨rfl, s6⟩
              have S6 := Lib.hid (S5.out.trans_nil s6)
              have J6 := Lib.hid (IsJS.same J5.out s6 (by simp))
              have B6 := Lib.hid (IsJS.same B5.out s6 (by simp))
              have O6 := Lib.hid (own_same O5.out.1 s6 (by simp))
              have hz6 := s6.size
              clear s6 HDr c3
              have S7 := Lib.hid (S6.out.alloc (.cells #[.int .i64 x0, .bool x1, .int .i64 x2, .bool x3, .string x4] 33))
              have J7 := Lib.hid (IsJS.same J6.out ((Same.refl [] w6).alloc (.cells #[.int .i64 x0, .bool x1, .int .i64 x2, .bool x3, .string x4] 33)) (by simp))
              have B7 := Lib.hid (IsJS.same B6.out ((Same.refl [] w6).alloc (.cells #[.int .i64 x0, .bool x1, .int .i64 x2, .bool x3, .string x4] 33)) (by simp))
              have O7 := Lib.hid (own_same O6.out ((Same.refl [] w6).alloc (.cells #[.int .i64 x0, .bool x1, .int .i64 x2, .bool x3, .string x4] 33)) (by simp))
              have hz7 : (w6.alloc (.cells #[.int .i64 x0, .bool x1, .int .i64 x2, .bool x3, .string x4] 33)).heap.size = w6.heap.size + 1 := World.size_alloc _ _
              have HZ7 := Lib.hid hz7
              clear hz7
              go_wp2_with fail
              (with_reducible refine (HFb.out _ B7.out).mono ?_)
              rintro e w8 ⟨v2, rfl, n2, b8, s8⟩
              have S8 := Lib.hid (((S7.out.mono (T := [B]) (by simp)).trans s8 (fun x hx _ => hx)).mono (T := []) (fun x hx hlt => by simp at hx; omega))
              have B8 := Lib.hid (show IsJS w8 B 17 rs from b8)
              have J8 := Lib.hid (IsJS.same J7.out s8 (by simp; omega))
              have o8 := own_same O7.out s8 (fun x hx hm => by have := O5.out.2 x hx; simp at hm; omega)
              have hrl : rl.length < 4611686018427387904 := by have h9 : rl.length ≤ 300 * k + 600 := HLN.out; omega
              have HT2 := Lib.hid (texts_quiet rl v1 v2 w8 (Reads.of_own o8) (Reads.of_own n2.1) hrl)
              have he : (re != re) = false := by simp
              have hh : (rs.hold.toList != rs.hold.toList) = false := by simp
              have hl' : (rs.lost != rs.lost) = false := by simp
              clear n2 b8 s8 o8 hrl HFb
              go_wp2_with (first
                | (go_at_call 15; (with_reducible refine HT2.out.mono ?_); rintro e w' ⟨rfl, m, rfl⟩)
                | (go_at_call 11; (first | (with_reducible refine (qheld J8.out _).mono ?_) | (with_reducible refine (qheld B8.out _).mono ?_)); rintro e w' ⟨rfl, rfl⟩)
                | (go_at_call 9; (first | (with_reducible refine (qlost J8.out _).mono ?_) | (with_reducible refine (qlost B8.out _).mono ?_)); rintro e w' ⟨rfl, rfl⟩))
              go_roundw
              case rel => exact ⟨k + 1, by omega, by go_num, rs, IsJS.same J8.out (Same.drewN _ _) (by simp), IsJS.same B8.out (Same.drewN _ _) (by simp), HOK.out, S8.out.trans_nil (Same.drewN _ _)⟩
              case measure => simp [intOf]; omega
            · have HDa := Lib.hid (jbytes_badx s JA.out TW.out hd)
              have HDr := Lib.hid (fun W => rdecode_bad s W hd)
              have hne : (decE s != 0) = true := by simp; exact hd
              have hee : (decE s != decE s) = false := by simp
              have hhh : (T.hold.toList != T.hold.toList) = false := by simp
              generalize decE s = d at *
              clear hd
              go_wp2_with fail
              (with_reducible refine HDa.out.mono ?_)
              rintro e w5 ⟨rfl, j5, s5⟩
              have S5 := Lib.hid (SW.out.trans_nil s5)
              have J5 := Lib.hid j5
              have B5 := Lib.hid (IsJS.same JB.out s5 (by simp))
              clear j5 s5 HDa c2
              (try clear c1)
              have c3 := S5.out.cell C0.out (by simp)
              go_wp2_with fail
              (with_reducible refine (HDr.out _).mono ?_)
              rintro e w6 ⟨rfl, s6⟩
              have S7 := Lib.hid ((S5.out.trans_nil s6).alloc (.cells #[.int .i64 0, .bool false, .int .i64 0, .bool false, .string ⟨#[]⟩] 33))
              have J7 := Lib.hid (IsJS.same J5.out (s6.alloc (.cells #[.int .i64 0, .bool false, .int .i64 0, .bool false, .string ⟨#[]⟩] 33)) (by simp))
              have B7 := Lib.hid (IsJS.same B5.out (s6.alloc (.cells #[.int .i64 0, .bool false, .int .i64 0, .bool false, .string ⟨#[]⟩] 33)) (by simp))
              clear s6 HDr c3
              go_wp2_with ((go_at_call 11; (with_reducible refine (jheld_any J7.out).mono ?_); rintro e w' ⟨rfl, rfl⟩))
              go_roundw
              case rel => exact ⟨k + 1, by omega, by go_num, T, J7.out, B7.out, OK.out.more (by omega), S7.out⟩
              case measure => simp [intOf]; omega
          · have hdq : ((k : Int) == drop) = false := by simp; exact hd
            clear hd
            obtain ⟨T, hT⟩ : ∃ T, T = S := ⟨_, rfl⟩
            have JA := Lib.hid HA.out; have JB := Lib.hid HB2.out; have OK := Lib.hid HK.out; have SW := Lib.hid HS.out
            rw [← hT] at JA JB OK
            clear hT
            obtain ⟨WW, hWW⟩ : ∃ WW, WW = wr := ⟨_, rfl⟩
            subst hWW
            go_upto_region 16 with fail
            go_wp2_with fail
            (with_reducible refine (jheld_any JA.out).mono ?_)
            rintro e wx ⟨rfl, rfl⟩
            have c2 := SW.out.cell C0.out (by simp)
            have TW := Lib.hid (HT.out.same SW.out (by simp))
            have hzw := SW.out.size
            have hBw : B < WW.heap.size := heap_lt JB.out
            have hK := hk1
            by_cases hd : decE s = 0
            · have HDa := Lib.hid (jbytes_ok s JA.out OK.out (by omega) TW.out hd)
              have HDr := Lib.hid (fun W => rdecode_ok s W hd)
              have HFb := Lib.hid (fun W (h : IsJS W B 17 T) => jfeed_any (byteOf s 1 % 32 * 256 + byteOf s 2 : Nat) (byteOf s 1 / 64 % 2 == 1) (byteOf s 3 % 16 : Nat) (byteOf s 1 / 128 == 1) (decB s) h OK.out (by omega))
              have HOK := Lib.hid ((feed_ok OK.out 17 (byteOf s 1 % 32 * 256 + byteOf s 2 : Nat) (byteOf s 1 / 64 % 2 == 1) (byteOf s 3 % 16 : Nat) (byteOf s 1 / 128 == 1) (decB s)).more (m := 300 * (k + 1)) (by omega))
              have HLN := Lib.hid (feed_len OK.out 17 (byteOf s 1 % 32 * 256 + byteOf s 2 : Nat) (byteOf s 1 / 64 % 2 == 1) (byteOf s 3 % 16 : Nat) (byteOf s 1 / 128 == 1) (decB s))
              generalize ((byteOf s 1 % 32 * 256 + byteOf s 2 : Nat) : Int) = x0 at *
              generalize (byteOf s 1 / 64 % 2 == 1) = x1 at *
              generalize ((byteOf s 3 % 16 : Nat) : Int) = x2 at *
              generalize (byteOf s 1 / 128 == 1) = x3 at *
              generalize decB s = x4 at *
              generalize feedG 17 T x0 x1 x2 x3 x4 = r at *
              obtain ⟨rs, rl, re⟩ := r
              clear hd
              go_wp2_with fail
              (with_reducible refine HDa.out.mono ?_)
              rintro e w5 ⟨v1, rfl, n1, j5, s5⟩
              have S5 := Lib.hid (((SW.out.mono (T := [w.heap.size]) (by simp)).trans s5 (fun x hx _ => hx)).mono (T := []) (fun x hx hlt => by simp at hx; omega))
              have J5 := Lib.hid (show IsJS w5 w.heap.size 17 rs from j5)
              have B5 := Lib.hid (IsJS.same JB.out s5 (by simp; omega))
              have O5 := Lib.hid n1
              have hz5 := s5.size
              clear n1 j5 s5 HDa c2
              (try clear c1)
              have c3 := S5.out.cell C0.out (by simp)
              go_wp2_with fail
              (with_reducible refine (HDr.out _).mono ?_)
              rintro e w6 ⟨rfl, s6⟩
              have S6 := Lib.hid (S5.out.trans_nil s6)
              have J6 := Lib.hid (IsJS.same J5.out s6 (by simp))
              have B6 := Lib.hid (IsJS.same B5.out s6 (by simp))
              have O6 := Lib.hid (own_same O5.out.1 s6 (by simp))
              have hz6 := s6.size
              clear s6 HDr c3
              have S7 := Lib.hid (S6.out.alloc (.cells #[.int .i64 x0, .bool x1, .int .i64 x2, .bool x3, .string x4] 33))
              have J7 := Lib.hid (IsJS.same J6.out ((Same.refl [] w6).alloc (.cells #[.int .i64 x0, .bool x1, .int .i64 x2, .bool x3, .string x4] 33)) (by simp))
              have B7 := Lib.hid (IsJS.same B6.out ((Same.refl [] w6).alloc (.cells #[.int .i64 x0, .bool x1, .int .i64 x2, .bool x3, .string x4] 33)) (by simp))
              have O7 := Lib.hid (own_same O6.out ((Same.refl [] w6).alloc (.cells #[.int .i64 x0, .bool x1, .int .i64 x2, .bool x3, .string x4] 33)) (by simp))
              have hz7 : (w6.alloc (.cells #[.int .i64 x0, .bool x1, .int .i64 x2, .bool x3, .string x4] 33)).heap.size = w6.heap.size + 1 := World.size_alloc _ _
              have HZ7 := Lib.hid hz7
              clear hz7
              go_wp2_with fail
              (with_reducible refine (HFb.out _ B7.out).mono ?_)
              rintro e w8 ⟨v2, rfl, n2, b8, s8⟩
              have S8 := Lib.hid (((S7.out.mono (T := [B]) (by simp)).trans s8 (fun x hx _ => hx)).mono (T := []) (fun x hx hlt => by simp at hx; omega))
              have B8 := Lib.hid (show IsJS w8 B 17 rs from b8)
              have J8 := Lib.hid (IsJS.same J7.out s8 (by simp; omega))
              have o8 := own_same O7.out s8 (fun x hx hm => by have := O5.out.2 x hx; simp at hm; omega)
              have hrl : rl.length < 4611686018427387904 := by have h9 : rl.length ≤ 300 * k + 600 := HLN.out; omega
              have HT2 := Lib.hid (texts_quiet rl v1 v2 w8 (Reads.of_own o8) (Reads.of_own n2.1) hrl)
              have he : (re != re) = false := by simp
              have hh : (rs.hold.toList != rs.hold.toList) = false := by simp
              have hl' : (rs.lost != rs.lost) = false := by simp
              clear n2 b8 s8 o8 hrl HFb
              go_wp2_with (first
                | (go_at_call 15; (with_reducible refine HT2.out.mono ?_); rintro e w' ⟨rfl, m, rfl⟩)
                | (go_at_call 11; (first | (with_reducible refine (qheld J8.out _).mono ?_) | (with_reducible refine (qheld B8.out _).mono ?_)); rintro e w' ⟨rfl, rfl⟩)
                | (go_at_call 9; (first | (with_reducible refine (qlost J8.out _).mono ?_) | (with_reducible refine (qlost B8.out _).mono ?_)); rintro e w' ⟨rfl, rfl⟩))
              go_roundw
              case rel => exact ⟨k + 1, by omega, by go_num, rs, IsJS.same J8.out (Same.drewN _ _) (by simp), IsJS.same B8.out (Same.drewN _ _) (by simp), HOK.out, S8.out.trans_nil (Same.drewN _ _)⟩
              case measure => simp [intOf]; omega
            · have HDa := Lib.hid (jbytes_badx s JA.out TW.out hd)
              have HDr := Lib.hid (fun W => rdecode_bad s W hd)
              have hne : (decE s != 0) = true := by simp; exact hd
              have hee : (decE s != decE s) = false := by simp
              have hhh : (T.hold.toList != T.hold.toList) = false := by simp
              generalize decE s = d at *
              clear hd
              go_wp2_with fail
              (with_reducible refine HDa.out.mono ?_)
              rintro e w5 ⟨rfl, j5, s5⟩
              have S5 := Lib.hid (SW.out.trans_nil s5)
              have J5 := Lib.hid j5
              have B5 := Lib.hid (IsJS.same JB.out s5 (by simp))
              clear j5 s5 HDa c2
              (try clear c1)
              have c3 := S5.out.cell C0.out (by simp)
              go_wp2_with fail
              (with_reducible refine (HDr.out _).mono ?_)
              rintro e w6 ⟨rfl, s6⟩
              have S7 := Lib.hid ((S5.out.trans_nil s6).alloc (.cells #[.int .i64 0, .bool false, .int .i64 0, .bool false, .string ⟨#[]⟩] 33))
              have J7 := Lib.hid (IsJS.same J5.out (s6.alloc (.cells #[.int .i64 0, .bool false, .int .i64 0, .bool false, .string ⟨#[]⟩] 33)) (by simp))
              have B7 := Lib.hid (IsJS.same B5.out (s6.alloc (.cells #[.int .i64 0, .bool false, .int .i64 0, .bool false, .string ⟨#[]⟩] 33)) (by simp))
              clear s6 HDr c3
              go_wp2_with ((go_at_call 11; (with_reducible refine (jheld_any J7.out).mono ?_); rintro e w' ⟨rfl, rfl⟩))
              go_roundw
              case rel => exact ⟨k + 1, by omega, by go_num, T, J7.out, B7.out, OK.out.more (by omega), S7.out⟩
              case measure => simp [intOf]; omega
      · have hk2 : ¬ (k : Int) < (xs.length : Int) := by omega
        go_wp2_with (go_at_call 8; (with_reducible refine (awake_any _).mono ?_); rintro e w' ⟨rfl, hs⟩; have HA := Lib.hid hs; clear hs)
        go_ret
        exact ⟨rfl, HS.out.trans_nil HA.out⟩

end Go.Proofs.YtpnbhgmcfooppaaDoor
