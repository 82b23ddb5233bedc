/- The tables' Decode, where the bytes are no such table: the very error; and Decode of what Encode answered. Condition: the bytes are fewer than 5000. -/
import Derived.Test.YtabglpkoklajlaaPo3
import Derived.Test.YtabglpkoklajlaaDp4
namespace Go.Proofs.Ytabglpkoklajlaa
open Go.RowKit
set_option linter.unusedSimpArgs false
set_option linter.unusedVariables false

def BadPost (w : World) (v : Value) (e : Ending) (w' : World) : Prop := Same [] w w' ∧ e = .returned v
set_option maxRecDepth 100000 in
set_option maxHeartbeats 8000000 in
theorem decodePat_bad (t : ByteArray) (w : World) (hs : t.size < 5000) (h0 : openedE t 0 ≠ 0) : Calls Try.prog 11 #[.string t] w (BadPost w (.tuple #[.agg #[.int .i64 0, .int .i64 0, .slice none 0 0], .int .i64 (openedE t 0)])) := by
  have HD := Lib.hid (fun W => opened_fn t 0 W (by omega))
  have HR := Lib.hid (heap_alloc_new w (.cells #[.int .i64 0, .int .i64 0, .slice none 0 0] 26))
  obtain ⟨t0, p, e, v, nw, nu, la, b, hsh, hval⟩ := decA_shape t
  have hov : openedA t 0 = if openedE t 0 = 0 then sec8 t0 p e v nw nu la b else secZ := by unfold openedA; rw [hsh]
  obtain ⟨oe, hoe⟩ : ∃ oe, oe = openedE t 0 := ⟨_, rfl⟩
  have h0i : (oe != 0) = true := by rw [hoe]; simpa using h0
  rw [if_neg h0] at hov
  rw [hov, ← hoe] at HD
  unfold secZ at HD
  rw [← hoe]
  clear hsh hval hov hoe h0
  go_enter Try.func11, Try.ntmps11
  go_wp2_with fail
  refine wp_scope_one 0 (fun _ _ => False) (fun _ _ => 0) rfl ?_ (fun _ _ h => h.elim)
  simp only [wpAll]
  go_wp2_with fail
  (with_reducible refine (HD.out _).mono ?_)
  rintro e9 w1 ⟨rfl, s1⟩
  have hr1 := s1.heap HR.out (by simp)
  have hlt := heap_lt hr1
  have S1 := Lib.hid (((Same.refl [] w).alloc (.cells #[.int .i64 0, .int .i64 0, .slice none 0 0] 26)).trans_nil s1)
  clear s1
  obtain ⟨r0, r1, r2, rf⟩ := pat_cells hr1
  have hch := pat_chain hr1 S1.out (Nat.le_refl _) (.int .i64 0) (.int .i64 0) (.slice none 0 0)
  clear hr1
  go_wp2_with fail
  clear r0 r1 r2 rf
  obtain ⟨hc0, hc3, _⟩ := hch
  have hc1 := ((Same.refl [] _).alloc (.cells #[.int .i64 0, .bool false, .int .i64 0, .int .i64 0, .bool false, .int .i64 0, .int .i64 0, .string ⟨#[]⟩] 59)).heap hc0 (by simp)
  have hc2 := hc3.alloc (.cells #[.int .i64 0, .bool false, .int .i64 0, .int .i64 0, .bool false, .int .i64 0, .int .i64 0, .string ⟨#[]⟩] 59)
  clear hc0 hc3
  obtain ⟨k0, k1, k2, _⟩ := pat_cells hc1
  simp only [noJump]
  refine bodyPost_ret (v := .tuple #[.agg #[.int .i64 0, .int .i64 0, .slice none 0 0], .int .i64 oe]) ?_ rfl ⟨hc2, rfl⟩
  simp [results, Try.results11, go_sem, k0, k1, k2]
set_option maxRecDepth 100000 in
set_option maxHeartbeats 8000000 in
theorem decodePmt_bad (t : ByteArray) (w : World) (hs : t.size < 5000) (h0 : openedE t 2 ≠ 0) : Calls Try.prog 12 #[.string t] w (BadPost w (.tuple #[.agg #[.int .i64 0, .int .i64 0, .int .i64 0, .string ⟨#[]⟩, .slice none 0 0], .int .i64 (openedE t 2)])) := by
  have HD := Lib.hid (fun W => opened_fn t 2 W (by omega))
  have HR := Lib.hid (heap_alloc_new w (.cells #[.int .i64 0, .int .i64 0, .int .i64 0, .string ⟨#[]⟩, .slice none 0 0] 29))
  obtain ⟨t0, p, e, v, nw, nu, la, b, hsh, hval⟩ := decA_shape t
  have hov : openedA t 2 = if openedE t 2 = 0 then sec8 t0 p e v nw nu la b else secZ := by unfold openedA; rw [hsh]
  obtain ⟨oe, hoe⟩ : ∃ oe, oe = openedE t 2 := ⟨_, rfl⟩
  have h0i : (oe != 0) = true := by rw [hoe]; simpa using h0
  rw [if_neg h0] at hov
  rw [hov, ← hoe] at HD
  unfold secZ at HD
  rw [← hoe]
  clear hsh hval hov hoe h0
  go_enter Try.func12, Try.ntmps12
  go_wp2_with fail
  refine wp_scope_one 0 (fun _ _ => False) (fun _ _ => 0) rfl ?_ (fun _ _ h => h.elim)
  simp only [wpAll]
  go_wp2_with fail
  (with_reducible refine (HD.out _).mono ?_)
  rintro e9 w1 ⟨rfl, s1⟩
  have hr1 := s1.heap HR.out (by simp)
  have hlt := heap_lt hr1
  have S1 := Lib.hid (((Same.refl [] w).alloc (.cells #[.int .i64 0, .int .i64 0, .int .i64 0, .string ⟨#[]⟩, .slice none 0 0] 29)).trans_nil s1)
  clear s1
  obtain ⟨r0, r1, r2, r3, r4, rf⟩ := pmt_cells hr1
  have hch := pmt_chain hr1 S1.out (Nat.le_refl _) (.int .i64 0) (.int .i64 0) (.int .i64 0) (.string ⟨#[]⟩) (.slice none 0 0)
  clear hr1
  go_wp2_with fail
  clear r0 r1 r2 r3 r4 rf
  obtain ⟨hc0, hc3, _⟩ := hch
  have hc1 := ((Same.refl [] _).alloc (.cells #[.int .i64 0, .bool false, .int .i64 0, .int .i64 0, .bool false, .int .i64 0, .int .i64 0, .string ⟨#[]⟩] 59)).heap hc0 (by simp)
  have hc2 := hc3.alloc (.cells #[.int .i64 0, .bool false, .int .i64 0, .int .i64 0, .bool false, .int .i64 0, .int .i64 0, .string ⟨#[]⟩] 59)
  clear hc0 hc3
  obtain ⟨k0, k1, k2, k3, k4, _⟩ := pmt_cells hc1
  simp only [noJump]
  refine bodyPost_ret (v := .tuple #[.agg #[.int .i64 0, .int .i64 0, .int .i64 0, .string ⟨#[]⟩, .slice none 0 0], .int .i64 oe]) ?_ rfl ⟨hc2, rfl⟩
  simp [results, Try.results12, go_sem, k0, k1, k2, k3, k4]
/-- Decode of what Encode answered. -/
def PatPost (w : World) (a b : Int) (l : List (Int × Int)) (e : Ending) (w' : World) : Prop := Same [] w w' ∧ ∃ ad c, e = .returned (.tuple #[.agg #[.int .i64 a, .int .i64 b, .slice ad l.length c], .int .i64 0]) ∧ ProgsV w' (.slice ad l.length c) l
def PmtPost (w : World) (a b c : Int) (i : ByteArray) (l : List StrT) (e : Ending) (w' : World) : Prop := Same [] w w' ∧ ∃ ad k, e = .returned (.tuple #[.agg #[.int .i64 a, .int .i64 b, .int .i64 c, .string i, .slice ad l.length k], .int .i64 0]) ∧ StrsV w' (.slice ad l.length k) l
theorem decPat_back {a b : Int} {l : List (Int × Int)} {s : ByteArray} (h : encPat a b l = (s, 0)) (w : World) : Calls Try.prog 11 #[.string s] w (PatPost w a b l) := by
  obtain ⟨h0, h2, ha, hb, hm, hl, hz⟩ := pat_back h
  refine (decodePat_any s w (by omega)).mono fun e w' hd => ?_
  obtain ⟨hs, ⟨_, v, he, _, hp, hq⟩ | ⟨er, h1, _, h3⟩⟩ := hd
  · rw [hl] at hp
    rw [ha, hb] at he
    obtain ⟨ad, c, rfl, h9⟩ := id hp
    exact ⟨hs, ad, c, he, hp⟩
  · refine absurd ?_ (h3 h0 hm)
    rw [ha, hb, hl]
    exact h
theorem decPmt_back {a b c : Int} {i : ByteArray} {l : List StrT} {s : ByteArray} (h : encPmt a b c i l = (s, 0)) (w : World) : Calls Try.prog 12 #[.string s] w (PmtPost w a b c i l) := by
  obtain ⟨h0, h2, ha, hb, hc, hi, hm, hl, hz⟩ := pmt_back h
  refine (decodePmt_any s w (by omega)).mono fun e w' hd => ?_
  obtain ⟨hs, ⟨_, v, he, _, hp, hq⟩ | ⟨er, h1, _, h3⟩⟩ := hd
  · rw [hl] at hp
    rw [ha, hb, hc, hi] at he
    obtain ⟨ad, k, rfl, h9⟩ := id hp
    exact ⟨hs, ad, k, he, hp⟩
  · refine absurd ?_ (h3 h0 hm)
    unfold pmtEnc
    rw [ha, hb, hc, hi, hl]
    exact h
theorem decPmt_no {a b : Int} {l : List (Int × Int)} {s : ByteArray} (h : encPat a b l = (s, 0)) (w : World) : Calls Try.prog 12 #[.string s] w (BadPost w (.tuple #[.agg #[.int .i64 0, .int .i64 0, .int .i64 0, .string ⟨#[]⟩, .slice none 0 0], .int .i64 14])) := by
  obtain ⟨h0, h2, ha, hb, hm, hl, hz⟩ := pat_back h
  have h9 := decodePmt_bad s w (by omega) (by rw [h2]; decide)
  rw [h2] at h9
  exact h9
theorem decPat_no {a b c : Int} {i : ByteArray} {l : List StrT} {s : ByteArray} (h : encPmt a b c i l = (s, 0)) (w : World) : Calls Try.prog 11 #[.string s] w (BadPost w (.tuple #[.agg #[.int .i64 0, .int .i64 0, .slice none 0 0], .int .i64 14])) := by
  obtain ⟨h0, h2, ha, hb, hc, hi, hm, hl, hz⟩ := pmt_back h
  have h9 := decodePat_bad s w (by omega) (by rw [h2]; decide)
  rw [h2] at h9
  exact h9
theorem encPat_bad {a b : Int} {l : List (Int × Int)} (h : (encPat a b l).2 = 0) : ∃ s, encPat a b l = (s, 0) := ⟨(encPat a b l).1, by rw [← h]⟩
/-- Where EncodePmt answers an error it answers no bytes. -/
theorem encPmt_bad {a b c : Int} {i : ByteArray} {l : List StrT} (h : (encPmt a b c i l).2 ≠ 0) : (encPmt a b c i l).1 = ⟨#[]⟩ := by
  unfold encPmt at h ⊢
  split
  · rfl
  · rename_i h1
    rw [if_neg h1] at h
    split
    · rfl
    · rename_i h2
      rw [if_neg h2] at h
      split
      · rfl
      · rename_i h3
        rw [if_neg h3] at h
        unfold tabF at h ⊢
        split
        · rename_i h4
          rw [if_pos h4] at h
          exact absurd rfl h
        · rfl
end Go.Proofs.Ytabglpkoklajlaa
