/- Taking bytes: the sections that are at their end (take), in the reference. Conditions: the bytes are fewer than 2^40. -/
import Derived.Test.YtpnbhgmcfooppaaJn4
import Derived.Deep.LoopGhost
namespace Go.Proofs.Ytpnbhgmcfooppaa
open Go.RowKit
set_option linter.unusedSimpArgs false
set_option linter.unusedVariables false

def RTakePost (w : World) (b : Nat) (pid : Int) (fol : Bool) (sn : Bool) (c : Int) (bd : ByteArray) (lost : Int) (r : Tk) (e : Ending) (w' : World) : Prop :=
  ∃ v, e = .returned (.tuple #[v, .bool r.ok]) ∧ NewStrs w w' v r.outs ∧ IsR w' b pid r.hold (!r.lose && fol) sn c bd lost ∧ Same [b] w w'
theorem holdAt_eqR {w : World} {b : Nat} {pid : Int} {hold : ByteArray} {fol : Bool} {sn : Bool} {c : Int} {bd : ByteArray} {lost : Int} (h : IsR w b pid hold fol sn c bd lost) : holdAt w b = hold.size := by unfold holdAt; rw [h.cells.1.2.1]

set_option maxRecDepth 100000 in
set_option maxHeartbeats 4000000 in
theorem rtake_any {w : World} {b : Nat} {pid : Int} {hold : ByteArray} {fol : Bool} {sn : Bool} {c : Int} {bd : ByteArray} {lost : Int} (s : ByteArray) (hj : IsR w b pid hold fol sn c bd lost) (hz : hold.size + s.size < 1099511627776) :
    Calls Try.prog 35 #[.pointer (some ⟨b, 0, none⟩), .string s] w (RTakePost w b pid fol sn c bd lost (takeG (hold ++ s).size (hold ++ s))) := by
  obtain ⟨i0, hi, hz0, hz1, hz2⟩ := info_parts Try.infoS
  obtain ⟨⟨c0, c1, c2, c3, c4, c5, c6⟩, f1, f2, f3, f4, f5, f6⟩ := hj.cells
  have hb := heap_lt hj
  have hsz : (hold ++ s).size = hold.size + s.size := ByteArray.size_append
  have HZ := Lib.hid (show (hold ++ s).size < 1099511627776 by omega)
  have hj2 := hj.set_hold (hold ++ s)
  have hs2 : Same [b] w (w.setCell ⟨b, 1, none⟩ (.string (hold ++ s))) := (Same.refl [b] w).setCell (by simp) _
  have HJ := Lib.hid hj2; have HS := Lib.hid hs2
  clear hj hj2 hs2 hsz
  go_enter Try.func35, Try.ntmps35
  go_wp2_with fail
  go_loopw [6] (fun v wr => ∃ (k : Nat) (L : List ByteArray) (h : ByteArray) (u : Value), u = v ∧ h.size ≤ k ∧ h.size ≤ (hold ++ s).size ∧ L.length + h.size ≤ (hold ++ s).size ∧ takeG (hold ++ s).size (hold ++ s) = pre L (takeG k h) ∧
    NewStrs w wr u L ∧ IsR wr b pid h fol sn c bd lost ∧ Same [b] w wr) (fun _ wr => holdAt wr b)
  case atStart => exact ⟨(hold ++ s).size, [], hold ++ s, .slice none 0 0, rfl, Nat.le_refl _, Nat.le_refl _, by simp, (pre_nil _).symm, ⟨World.ownsRow_nil _ _ _ _, fun k hk => (by cases hk)⟩, HJ.out, HS.out⟩
  case round =>
    obtain ⟨k, L, h, v, rfl, hk, hR0, hLR, hinv, hown, hj, hsm⟩ := hrel
    obtain ⟨w1, hw1⟩ : ∃ w1 : World, w1 = wr := ⟨_, rfl⟩
    subst hw1
    have HI := Lib.hid hinv; have HO := Lib.hid hown; have HJ2 := Lib.hid hj; have HS2 := Lib.hid hsm
    obtain ⟨⟨d0, d1, d2, d3, d4, d5, d6⟩, g1, g2, g3, g4, g5, g6⟩ := hj.cells
    have hlt := heap_lt hj
    clear hinv hown hj hsm c0 c1 c2 c3 c4 c5 c6 f1 f2 f3 f4 f5 f6 HJ HS
    by_cases h0 : h.size = 0
    · have hres : takeG (hold ++ s).size (hold ++ s) = ⟨L, h, false, true⟩ := by
        rw [HI.out, take_none k h0]; simp [pre]
      obtain rfl : h = ⟨#[]⟩ := empty_of h0
      have HRS := Lib.hid hres
      clear hres h0 HI
      go_wp2_with fail
      go_ret2
      exact ⟨v, by rw [HRS.out]; rfl, by rw [HRS.out]; exact HO.out, by rw [HRS.out]; simpa using HJ2.out, HS2.out⟩
    · obtain ⟨n1, n2⟩ := nonempty h (by omega)
      have hpos : 0 < h.size := by omega
      have hpos2 : (0 : Int) < (h.size : Int) := by omega
      have hb0 := byteOf_at h 0 hpos
      have hbl := byteOf_lt h 0
      by_cases h1 : byteOf h 0 = 255
      · have hres : takeG (hold ++ s).size (hold ++ s) = ⟨L, ⟨#[]⟩, true, true⟩ := by
          rw [HI.out, take_stuff hk h0 h1]; simp [pre]
        have HRS := Lib.hid hres
        rw [h1] at hb0
        clear hres h0 HI
        have HL := Lib.hid (rlose_any HJ2.out)
        go_wp2_with fail
        (with_reducible refine HL.out.mono ?_)
        rintro e w2 ⟨rfl, j2, s2⟩
        have J2 := Lib.hid j2; have S2 := Lib.hid s2
        have hno : NewStrs w w2 v L := ⟨own_same HO.out.1 s2 (fun x hx hm => by have := HO.out.2 x hx; simp at hm; omega), HO.out.2⟩
        have HNO := Lib.hid hno
        clear j2 s2 HL hno
        go_wp2_with fail
        go_ret2
        exact ⟨v, by rw [HRS.out]; rfl, by rw [HRS.out]; exact HNO.out, by rw [HRS.out]; simpa using J2.out, HS2.out.trans S2.out (fun x hx _ => hx)⟩
      · have hne : ¬ ((byteOf h 0 : Nat) : Int) = 255 := by omega
        have hneb : (((byteOf h 0 : Nat) : Int) == 255) = false := by simp; omega
        by_cases h2 : h.size < 3
        · have hres : takeG (hold ++ s).size (hold ++ s) = ⟨L, h, false, true⟩ := by
            rw [HI.out, take_few hk h0 h1 h2]; simp [pre]
          have HRS := Lib.hid hres
          have h2i : (h.size : Int) < 3 := by omega
          clear hres h0 HI
          go_wp2_with fail
          go_ret2
          exact ⟨v, by rw [HRS.out]; rfl, by rw [HRS.out]; exact HO.out, by rw [HRS.out]; simpa using HJ2.out, HS2.out⟩
        · have h2i : ¬ (h.size : Int) < 3 := by omega
          have hnd := fun W => rneed_any h W (by omega) (by have := HZ.out; omega)
          have HN := Lib.hid hnd
          clear hnd
          cases hn : needG h with
          | none =>
            have hres : takeG (hold ++ s).size (hold ++ s) = ⟨L, ⟨#[]⟩, true, false⟩ := by
              rw [HI.out, take_bad hk h0 h1 h2 hn]; simp [pre]
            have HRS := Lib.hid hres
            have HNN := Lib.hid hn
            clear hres h0 HI hn
            go_wp2_with fail
            (with_reducible refine (HN.out _).mono ?_)
            rintro e w2 ⟨⟨n, hnn, _⟩ | ⟨_, rfl⟩, s2⟩
            · rw [HNN.out] at hnn; cases hnn
            have J2 := Lib.hid (HJ2.out.same s2 (by simp)); have S2 := Lib.hid s2
            have HL := Lib.hid (rlose_any J2.out)
            clear s2 HN
            go_wp2_with fail
            (with_reducible refine HL.out.mono ?_)
            rintro e w3 ⟨rfl, j3, s3⟩
            have J3 := Lib.hid j3; have S3 := Lib.hid s3
            have hno : NewStrs w w3 v L := ⟨own_same (own_same HO.out.1 S2.out (by simp)) s3 (fun x hx hm => by have := HO.out.2 x hx; simp at hm; omega), HO.out.2⟩
            have HNO := Lib.hid hno
            clear j3 s3 HL hno
            go_wp2_with fail
            go_ret2
            exact ⟨v, by rw [HRS.out]; rfl, by rw [HRS.out]; exact HNO.out, by rw [HRS.out]; simpa using J3.out, (HS2.out.trans_nil S2.out).trans S3.out (fun x hx _ => hx)⟩
          | some n =>
            obtain ⟨nn1, nn2⟩ := need_ge hn
            have HNN := Lib.hid hn
            by_cases h4 : h.size < n
            · have hres : takeG (hold ++ s).size (hold ++ s) = ⟨L, h, false, true⟩ := by
                rw [HI.out, take_part hk h0 h1 h2 hn h4]; simp [pre]
              have HRS := Lib.hid hres
              have h4i : (h.size : Int) < (n : Int) := by omega
              clear hres h0 HI hn
              go_wp2_with fail
              (with_reducible refine (HN.out _).mono ?_)
              rintro e w2 ⟨⟨n', hnn, rfl⟩ | ⟨hnn, _⟩, s2⟩
              rotate_left
              · rw [HNN.out] at hnn; cases hnn
              rw [HNN.out, Option.some.injEq] at hnn
              subst hnn
              have J2 := Lib.hid (HJ2.out.same s2 (by simp)); have S2 := Lib.hid s2
              clear d0 d1 d2 d3 d4 d5 d6 g1 g2 g3 g4 g5 g6
              obtain ⟨⟨d0, d1, d2, d3, d4, d5, d6⟩, g1, g2, g3, g4, g5, g6⟩ := J2.out.cells
              clear s2 HN
              go_wp2_with fail
              go_ret2
              exact ⟨v, by rw [HRS.out]; rfl, by rw [HRS.out]; exact ⟨own_same HO.out.1 S2.out (by simp), HO.out.2⟩, by rw [HRS.out]; simpa using J2.out, HS2.out.trans_nil S2.out⟩
            · obtain ⟨k', rfl⟩ : ∃ k', k = k' + 1 := ⟨k - 1, by omega⟩
              have hnxt : takeG (hold ++ s).size (hold ++ s) = pre (L ++ [h.extract 0 n]) (takeG k' (h.extract n h.size)) := by
                rw [HI.out, take_more h0 h1 h2 hn h4, pre_snoc]
              have HNX := Lib.hid hnxt
              have h4i : ¬ (h.size : Int) < (n : Int) := by omega
              have h4j : (n : Int) ≤ (h.size : Int) := by omega
              have hx1 := size_extract h 0 n (by omega) (by omega)
              have hx2 := size_extract h n h.size (by omega) (by omega)
              have HX1 := Lib.hid hx1; have HX2 := Lib.hid hx2
              clear hnxt h0 HI hn hx1 hx2
              go_wp2_with fail
              (with_reducible refine (HN.out _).mono ?_)
              rintro e w2 ⟨⟨n', hnn, rfl⟩ | ⟨hnn, _⟩, s2⟩
              rotate_left
              · rw [HNN.out] at hnn; cases hnn
              rw [HNN.out, Option.some.injEq] at hnn
              subst hnn
              have J2 := Lib.hid (HJ2.out.same s2 (by simp)); have S2 := Lib.hid s2
              have HO2 := Lib.hid (own_same HO.out.1 s2 (by simp))
              clear d0 d1 d2 d3 d4 d5 d6 g1 g2 g3 g4 g5 g6
              obtain ⟨⟨d0, d1, d2, d3, d4, d5, d6⟩, g1, g2, g3, g4, g5, g6⟩ := J2.out.cells
              clear s2 HN
              go_wp2_with (first
                | (at_builtin; refine wpList_append_src rfl (.tmp 61) (.tmp 68) 33 rfl 0 9 i0 (.string ByteArray.empty) 1 16 Try.underlying33 hi hz0 hz1 hz2 rfl (by decide) v L.length (strVals L) rfl (by exact (HO2.out.alloc _)) _ 1 [.string (h.extract 0 n)] rfl (by exact Reads.of_own (row_new w2 #[.string (h.extract 0 n)] 9 1 rfl (by decide))) (by intro u hu; simp at hu; subst hu; rfl) (by have := HZ.out; unfold maxLen; omega) (by have := HZ.out; omega) (by simp) ?_; intro v' w4 hown hgrow hat; have J4 := Lib.hid ((J2.out.same ((Same.refl [] w2).alloc (.cells #[.string (h.extract 0 n)] 9)) (by simp)).same (Same.of_grown hgrow) (fun hm => by have := HO.out.2 b (by simpa using hm); omega)); clear d0 d1 d2 d3 d4 d5 d6 g1 g2 g3 g4 g5 g6; obtain ⟨⟨d0, d1, d2, d3, d4, d5, d6⟩, g1, g2, g3, g4, g5, g6⟩ := J4.out.cells; have HOWN := Lib.hid hown; have HG := Lib.hid hgrow; have HAT := Lib.hid hat; clear hown hgrow hat)
                | go_in)
              have hsz2 := S2.out.size
              have hsz1 := HS2.out.size
              have hfr : ∀ x, v'.ownBlock = some x → w.heap.size ≤ x := fun x hx => by
                rcases HAT.out with e | e
                · rw [e] at hx; exact HO.out.2 x hx
                · rw [e] at hx; cases hx; simp only [World.size_alloc]; omega
              have hrow := own_same (S := [b]) HOWN.out ((Same.refl [b] w4).setCell (p := ⟨b, 1, none⟩) (by simp) (.string (h.extract n h.size))) (fun x hx hm => by have := hfr x hx; simp at hm; omega)
              go_roundw
              case rel =>
                refine ⟨k', L ++ [h.extract 0 n], h.extract n h.size, v', rfl, by have := HX2.out; omega, by have := HX2.out; omega, by have := HX2.out; rw [List.length_append]; simp only [List.length_cons, List.length_nil]; omega, HNX.out, ⟨by simpa [strVals] using hrow, hfr⟩, J4.out.set_hold _, ?_⟩
                exact (((HS2.out.trans_nil S2.out).alloc _).trans (Same.of_grown HG.out) (fun x hx hlt => by have := HO.out.2 x (by simpa using hx); omega)).setCell (by simp) _
              case measure =>
                rw [holdAt_eqR (J4.out.set_hold _), holdAt_eqR HJ2.out]
                have := HX2.out; omega

end Go.Proofs.Ytpnbhgmcfooppaa
