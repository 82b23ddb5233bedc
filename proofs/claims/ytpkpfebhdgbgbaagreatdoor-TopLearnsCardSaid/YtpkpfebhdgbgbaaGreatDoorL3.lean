/- The tables' Decode, where the bytes are no such table: the very error; and Decode of what Encode answered. Condition: the bytes are fewer than 5000. The tables of the law TopLearns: their sections, and that a packet bears each. Plain; the conditions of the law's numbers. The top's example (clariontop.awake). Condition: the table of the frame's sizes. A small section goes through packets (clariontop.through). Conditions: a section that may be, of up to 183 bytes; a Pid. The law TopLearns where its numbers are out of range: the example answers. And small facts for the walk. Condition: the table of the frame's sizes. -/
import Derived.Test.YtpkpfebhdgbgbaaGreatDoorTSPsA3
import Derived.Test.YtpkpfebhdgbgbaaGreatDoorTSDp4
import Derived.Test.YtpkpfebhdgbgbaaGreatDoorTp4
import Derived.Test.YtpkpfebhdgbgbaaGreatDoorTJJn10
import Derived.Test.YtpkpfebhdgbgbaaGreatDoorD6
namespace Go.Proofs.YtpkpfebhdgbgbaaGreatDoor.S
open Go.RowKit
set_option linter.unusedSimpArgs false
set_option linter.unusedVariables false

def BadPost (w : World) (v : Value) (e : Ending) (w' : World) : Prop := Same [] w w' ∧ e = .returned v
set_option maxRecDepth 100000 in
set_option maxHeartbeats 8000000 in
theorem decodePat_bad (t : ByteArray) (w : World) (hs : t.size < 5000) (h0 : openedE t 0 ≠ 0) : Calls Tryz.prog 17 #[.string t] w (BadPost w (.tuple #[.agg #[.int .i64 0, .int .i64 0, .slice none 0 0], .int .i64 (openedE t 0)])) := by
  have HD := Lib.hid (fun W => opened_fn t 0 W (by omega))
  have HR := Lib.hid (heap_alloc_new w (.cells #[.int .i64 0, .int .i64 0, .slice none 0 0] 50))
  obtain ⟨t0, p, e, v, nw, nu, la, b, hsh, hval⟩ := decA_shape t
  have hov : openedA t 0 = if openedE t 0 = 0 then sec8 t0 p e v nw nu la b else secZ := by unfold openedA; rw [hsh]
  obtain ⟨oe, hoe⟩ : ∃ oe, oe = openedE t 0 := ⟨_, rfl⟩
  have h0i : (oe != 0) = true := by rw [hoe]; simpa using h0
  rw [if_neg h0] at hov
  rw [hov, ← hoe] at HD
  unfold secZ at HD
  rw [← hoe]
  clear hsh hval hov hoe h0
  go_enter Tryz.func17, Tryz.ntmps17
  go_wp2_with fail
  refine wp_scope_one 0 (fun _ _ => False) (fun _ _ => 0) rfl ?_ (fun _ _ h => h.elim)
  simp only [wpAll]
  go_wp2_with fail
  (with_reducible refine (HD.out _).mono ?_)
  rintro e9 w1 ⟨rfl, s1⟩
  have hr1 := s1.heap HR.out (by simp)
  have hlt := heap_lt hr1
  have S1 := Lib.hid (((Same.refl [] w).alloc (.cells #[.int .i64 0, .int .i64 0, .slice none 0 0] 50)).trans_nil s1)
  clear s1
  obtain ⟨r0, r1, r2, rf⟩ := pat_cells hr1
  have hch := pat_chain hr1 S1.out (Nat.le_refl _) (.int .i64 0) (.int .i64 0) (.slice none 0 0)
  clear hr1
  go_wp2_with fail
  clear r0 r1 r2 rf
  obtain ⟨hc0, hc3, _⟩ := hch
  have hc1 := ((Same.refl [] _).alloc (.cells #[.int .i64 0, .bool false, .int .i64 0, .int .i64 0, .bool false, .int .i64 0, .int .i64 0, .string ⟨#[]⟩] 124)).heap hc0 (by simp)
  have hc2 := hc3.alloc (.cells #[.int .i64 0, .bool false, .int .i64 0, .int .i64 0, .bool false, .int .i64 0, .int .i64 0, .string ⟨#[]⟩] 124)
  clear hc0 hc3
  obtain ⟨k0, k1, k2, _⟩ := pat_cells hc1
  simp only [noJump]
  refine bodyPost_ret (v := .tuple #[.agg #[.int .i64 0, .int .i64 0, .slice none 0 0], .int .i64 oe]) ?_ rfl ⟨hc2, rfl⟩
  simp [results, Tryz.results17, go_sem, k0, k1, k2]
set_option maxRecDepth 100000 in
set_option maxHeartbeats 8000000 in
theorem decodePmt_bad (t : ByteArray) (w : World) (hs : t.size < 5000) (h0 : openedE t 2 ≠ 0) : Calls Tryz.prog 19 #[.string t] w (BadPost w (.tuple #[.agg #[.int .i64 0, .int .i64 0, .int .i64 0, .string ⟨#[]⟩, .slice none 0 0], .int .i64 (openedE t 2)])) := by
  have HD := Lib.hid (fun W => opened_fn t 2 W (by omega))
  have HR := Lib.hid (heap_alloc_new w (.cells #[.int .i64 0, .int .i64 0, .int .i64 0, .string ⟨#[]⟩, .slice none 0 0] 56))
  obtain ⟨t0, p, e, v, nw, nu, la, b, hsh, hval⟩ := decA_shape t
  have hov : openedA t 2 = if openedE t 2 = 0 then sec8 t0 p e v nw nu la b else secZ := by unfold openedA; rw [hsh]
  obtain ⟨oe, hoe⟩ : ∃ oe, oe = openedE t 2 := ⟨_, rfl⟩
  have h0i : (oe != 0) = true := by rw [hoe]; simpa using h0
  rw [if_neg h0] at hov
  rw [hov, ← hoe] at HD
  unfold secZ at HD
  rw [← hoe]
  clear hsh hval hov hoe h0
  go_enter Tryz.func19, Tryz.ntmps19
  go_wp2_with fail
  refine wp_scope_one 0 (fun _ _ => False) (fun _ _ => 0) rfl ?_ (fun _ _ h => h.elim)
  simp only [wpAll]
  go_wp2_with fail
  (with_reducible refine (HD.out _).mono ?_)
  rintro e9 w1 ⟨rfl, s1⟩
  have hr1 := s1.heap HR.out (by simp)
  have hlt := heap_lt hr1
  have S1 := Lib.hid (((Same.refl [] w).alloc (.cells #[.int .i64 0, .int .i64 0, .int .i64 0, .string ⟨#[]⟩, .slice none 0 0] 56)).trans_nil s1)
  clear s1
  obtain ⟨r0, r1, r2, r3, r4, rf⟩ := pmt_cells hr1
  have hch := pmt_chain hr1 S1.out (Nat.le_refl _) (.int .i64 0) (.int .i64 0) (.int .i64 0) (.string ⟨#[]⟩) (.slice none 0 0)
  clear hr1
  go_wp2_with fail
  clear r0 r1 r2 r3 r4 rf
  obtain ⟨hc0, hc3, _⟩ := hch
  have hc1 := ((Same.refl [] _).alloc (.cells #[.int .i64 0, .bool false, .int .i64 0, .int .i64 0, .bool false, .int .i64 0, .int .i64 0, .string ⟨#[]⟩] 124)).heap hc0 (by simp)
  have hc2 := hc3.alloc (.cells #[.int .i64 0, .bool false, .int .i64 0, .int .i64 0, .bool false, .int .i64 0, .int .i64 0, .string ⟨#[]⟩] 124)
  clear hc0 hc3
  obtain ⟨k0, k1, k2, k3, k4, _⟩ := pmt_cells hc1
  simp only [noJump]
  refine bodyPost_ret (v := .tuple #[.agg #[.int .i64 0, .int .i64 0, .int .i64 0, .string ⟨#[]⟩, .slice none 0 0], .int .i64 oe]) ?_ rfl ⟨hc2, rfl⟩
  simp [results, Tryz.results19, go_sem, k0, k1, k2, k3, k4]
/-- Decode of what Encode answered. -/
def PatPost (w : World) (a b : Int) (l : List (Int × Int)) (e : Ending) (w' : World) : Prop := Same [] w w' ∧ ∃ ad c, e = .returned (.tuple #[.agg #[.int .i64 a, .int .i64 b, .slice ad l.length c], .int .i64 0]) ∧ ProgsV w' (.slice ad l.length c) l
def PmtPost (w : World) (a b c : Int) (i : ByteArray) (l : List StrT) (e : Ending) (w' : World) : Prop := Same [] w w' ∧ ∃ ad k, e = .returned (.tuple #[.agg #[.int .i64 a, .int .i64 b, .int .i64 c, .string i, .slice ad l.length k], .int .i64 0]) ∧ StrsV w' (.slice ad l.length k) l
theorem decPat_back {a b : Int} {l : List (Int × Int)} {s : ByteArray} (h : encPat a b l = (s, 0)) (w : World) : Calls Tryz.prog 17 #[.string s] w (PatPost w a b l) := by
  obtain ⟨h0, h2, ha, hb, hm, hl, hz⟩ := pat_back h
  refine (decodePat_any s w (by omega)).mono fun e w' hd => ?_
  obtain ⟨hs, ⟨_, v, he, _, hp, hq⟩ | ⟨er, h1, _, h3⟩⟩ := hd
  · rw [hl] at hp
    rw [ha, hb] at he
    obtain ⟨ad, c, rfl, h9⟩ := id hp
    exact ⟨hs, ad, c, he, hp⟩
  · refine absurd ?_ (h3 h0 hm)
    rw [ha, hb, hl]
    exact h
theorem decPmt_back {a b c : Int} {i : ByteArray} {l : List StrT} {s : ByteArray} (h : encPmt a b c i l = (s, 0)) (w : World) : Calls Tryz.prog 19 #[.string s] w (PmtPost w a b c i l) := by
  obtain ⟨h0, h2, ha, hb, hc, hi, hm, hl, hz⟩ := pmt_back h
  refine (decodePmt_any s w (by omega)).mono fun e w' hd => ?_
  obtain ⟨hs, ⟨_, v, he, _, hp, hq⟩ | ⟨er, h1, _, h3⟩⟩ := hd
  · rw [hl] at hp
    rw [ha, hb, hc, hi] at he
    obtain ⟨ad, k, rfl, h9⟩ := id hp
    exact ⟨hs, ad, k, he, hp⟩
  · refine absurd ?_ (h3 h0 hm)
    unfold pmtEnc
    rw [ha, hb, hc, hi, hl]
    exact h
theorem decPmt_no {a b : Int} {l : List (Int × Int)} {s : ByteArray} (h : encPat a b l = (s, 0)) (w : World) : Calls Tryz.prog 19 #[.string s] w (BadPost w (.tuple #[.agg #[.int .i64 0, .int .i64 0, .int .i64 0, .string ⟨#[]⟩, .slice none 0 0], .int .i64 14])) := by
  obtain ⟨h0, h2, ha, hb, hm, hl, hz⟩ := pat_back h
  have h9 := decodePmt_bad s w (by omega) (by rw [h2]; decide)
  rw [h2] at h9
  exact h9
theorem decPat_no {a b c : Int} {i : ByteArray} {l : List StrT} {s : ByteArray} (h : encPmt a b c i l = (s, 0)) (w : World) : Calls Tryz.prog 17 #[.string s] w (BadPost w (.tuple #[.agg #[.int .i64 0, .int .i64 0, .slice none 0 0], .int .i64 14])) := by
  obtain ⟨h0, h2, ha, hb, hc, hi, hm, hl, hz⟩ := pmt_back h
  have h9 := decodePat_bad s w (by omega) (by rw [h2]; decide)
  rw [h2] at h9
  exact h9
theorem encPat_bad {a b : Int} {l : List (Int × Int)} (h : (encPat a b l).2 = 0) : ∃ s, encPat a b l = (s, 0) := ⟨(encPat a b l).1, by rw [← h]⟩
/-- Where EncodePmt answers an error it answers no bytes. -/
theorem encPmt_bad {a b c : Int} {i : ByteArray} {l : List StrT} (h : (encPmt a b c i l).2 ≠ 0) : (encPmt a b c i l).1 = ⟨#[]⟩ := by
  unfold encPmt at h ⊢
  split
  · rfl
  · rename_i h1
    rw [if_neg h1] at h
    split
    · rfl
    · rename_i h2
      rw [if_neg h2] at h
      split
      · rfl
      · rename_i h3
        rw [if_neg h3] at h
        unfold tabF at h ⊢
        split
        · rename_i h4
          rw [if_pos h4] at h
          exact absurd rfl h
        · rfl
end Go.Proofs.YtpkpfebhdgbgbaaGreatDoor.S
namespace Go.Proofs.YtpkpfebhdgbgbaaGreatDoor.L
open Go.RowKit
set_option linter.unusedSimpArgs false
set_option linter.unusedVariables false

/-- A joiner's answer does not hang on its Pid. -/
theorem feed_pid (P : Int) (T : J.JS) (st : Bool) (c : Int) (bad : Bool) (body : ByteArray) (h0 : 0 ≤ P) (h1 : P < 8192) : J.feedG P T P st c bad body = J.feedG 17 T 17 st c bad body := by
  have hc : J.chkG P c body = J.chkG 17 c body := by
    unfold J.chkG
    by_cases hc : c < 0 ∨ 15 < c
    · rw [if_pos (by omega), if_pos (by omega)]
    · have a1 : ¬ (P < 0 ∨ 8192 ≤ P ∨ c < 0 ∨ 15 < c) := by omega
      have a2 : ¬ ((17 : Int) < 0 ∨ (8192 : Int) ≤ 17 ∨ c < 0 ∨ 15 < c) := by omega
      rw [if_neg a1, if_neg a2]
  unfold J.feedG
  rw [hc, if_neg (show ¬ P ≠ P by simp), if_neg (show ¬ (17 : Int) ≠ 17 by simp)]

/-- The other programs of the law. -/
def others (n : Nat) : List (Int × Int) := (List.range n).map fun (i : Nat) => ((60001 : Int) + (i : Int), (8100 : Int) + (i : Int))
def progs (n : Nat) (pr pid : Int) : List (Int × Int) := others n ++ [(pr, pid)]
theorem others_len (n : Nat) : (others n).length = n := by simp [others]
theorem others_succ (n : Nat) : others (n + 1) = others n ++ [((60001 : Int) + (n : Int), (8100 : Int) + (n : Int))] := by simp [others, List.range_succ]
theorem progs_len (n : Nat) (pr pid : Int) : (progs n pr pid).length = n + 1 := by simp [progs, others_len]
theorem others_at (n k : Nat) (h : k < n) : (others n)[k]? = some ((60001 : Int) + (k : Int), (8100 : Int) + (k : Int)) := by
  simp [others, h]
theorem progs_at (n k : Nat) (h : k < n) (pr pid : Int) : (progs n pr pid)[k]? = some ((60001 : Int) + (k : Int), (8100 : Int) + (k : Int)) := by
  unfold progs
  rw [List.getElem?_append_left (by rw [others_len]; exact h), others_at n k h]
theorem progs_last (n : Nat) (pr pid : Int) : (progs n pr pid)[n]? = some (pr, pid) := by
  unfold progs
  rw [List.getElem?_append_right (by rw [others_len]; exact Nat.le_refl _), others_len, Nat.sub_self]
  rfl
theorem inB_of {n m : Int} (h0 : 0 ≤ n) (h1 : n ≤ m) : S.inB n m = true := by unfold S.inB; simp [h0, h1]
def patSec (n : Nat) (pr pid : Int) : ByteArray := S.sealS (S.tabS 0 3 7 (S.patB (progs n pr pid)))
theorem pat_is {n : Nat} {pr pid : Int} (hn : n ≤ 20) (p0 : 1 ≤ pr) (p1 : pr ≤ 60000) (d0 : 32 ≤ pid) (d1 : pid ≤ 8000) : S.encPat 3 7 (progs n pr pid) = (patSec n pr pid, 0) := by
  unfold S.encPat
  have hr : S.patR 3 7 (progs n pr pid) = true := by
    unfold S.patR
    rw [inB_of (by decide) (by decide), inB_of (by decide) (by decide), Bool.true_and, Bool.true_and, List.all_eq_true]
    · intro x hx
      unfold progs others at hx
      simp only [List.mem_append, List.mem_map, List.mem_range, List.mem_singleton] at hx
      unfold S.okP
      rcases hx with ⟨i, hi, rfl⟩ | rfl
      · rw [inB_of (by omega) (by show (60001 : Int) + (i : Int) ≤ 65535; omega), inB_of (by omega) (by show (8100 : Int) + (i : Int) ≤ 8191; omega)]; rfl
      · rw [inB_of (by show (0 : Int) ≤ pr; omega) (by show pr ≤ 65535; omega), inB_of (by show (0 : Int) ≤ pid; omega) (by show pid ≤ 8191; omega)]; rfl
  have hd : ((progs n pr pid).map (·.1)).Nodup := by
    unfold progs others
    rw [List.map_append, List.map_map, List.nodup_append]
    refine ⟨?_, by simp, ?_⟩
    · unfold List.Nodup
      rw [List.pairwise_map]
      refine List.Pairwise.imp ?_ List.nodup_range
      intro a b hab h
      have h : (60001 : Int) + (a : Int) = (60001 : Int) + (b : Int) := h
      exact hab (by omega)
    · intro a ha b hb hab
      simp only [List.mem_map, List.mem_range, List.map_cons, List.map_nil, List.mem_singleton, Function.comp_apply] at ha hb
      obtain ⟨i, _, rfl⟩ := ha
      omega
  rw [hr, if_neg (by decide), if_neg (fun h => h hd), if_neg (by rw [progs_len]; omega)]
  unfold S.tabF
  rw [if_pos (by rw [S.size_patB, progs_len]; omega)]
  rfl

/-- The streams of the law. -/
def strs (pid : Int) (info : ByteArray) : List S.StrT := [⟨6, 20, ⟨#[]⟩⟩, ⟨144, pid, info⟩]
def pmtSec (pr pid : Int) (info : ByteArray) : ByteArray := S.sealS (S.tabS 2 pr 0 (S.pmtB 8191 ⟨#[]⟩ (strs pid info)))
theorem size_pmt (pid : Int) (info : ByteArray) : (S.pmtB 8191 ⟨#[]⟩ (strs pid info)).size = 14 + info.size := by
  unfold S.pmtB strs
  rw [List.foldl_cons, List.foldl_cons, List.foldl_nil, ByteArray.size_append, ByteArray.size_append, S.size_topB, S.size_strB, S.size_strB]
  show 4 + 0 + (5 + 0) + (5 + info.size) = _
  omega
theorem pmt_is {pr pid : Int} {info : ByteArray} (hi : info.size ≤ 100) (p0 : 1 ≤ pr) (p1 : pr ≤ 60000) (d0 : 32 ≤ pid) (d1 : pid ≤ 8000) : S.encPmt pr 0 8191 ⟨#[]⟩ (strs pid info) = (pmtSec pr pid info, 0) := by
  unfold S.encPmt
  have hr : S.pmtR pr 0 8191 (strs pid info) = true := by
    unfold S.pmtR strs S.okS
    rw [inB_of (by omega) (by omega), inB_of (by decide) (by decide), inB_of (by decide) (by decide)]
    simp only [List.all_cons, List.all_nil]
    rw [inB_of (by decide) (by decide), inB_of (by decide) (by decide), inB_of (by decide) (by decide), inB_of (by omega) (by omega)]
    rfl
  have hd : ((strs pid info).map (·.pid)).Nodup := by
    unfold strs
    have : ¬ (20 : Int) = pid := by omega
    simp [this]
  have hf : ¬ (S.fullB ⟨#[]⟩ (strs pid info) = true ∨ 1024 < (S.pmtB 8191 ⟨#[]⟩ (strs pid info)).size) := by
    rintro (h | h)
    · unfold S.fullB strs at h
      simp only [List.any_cons, List.any_nil, Bool.or_eq_true, decide_eq_true_eq, Bool.or_false] at h
      have hz : (⟨#[]⟩ : ByteArray).size = 0 := rfl
      rw [hz] at h
      omega
    · rw [size_pmt] at h; omega
  rw [hr, if_neg (by decide), if_neg (fun h => h hd), if_neg hf]
  unfold S.tabF
  rw [if_pos (by rw [size_pmt]; omega)]
  rfl
theorem good_pat {n : Nat} {pr pid : Int} (hn : n ≤ 20) : J.Good (patSec n pr pid) ∧ (patSec n pr pid).size ≤ 183 := by
  have hz : (S.patB (progs n pr pid)).size = 4 * (n + 1) := by rw [S.size_patB, progs_len]
  refine ⟨?_, ?_⟩
  · exact A.good_tab 0 3 7 (S.patB (progs n pr pid)) (S.fourN (S.sumN (S.tabS 0 3 7 (S.patB (progs n pr pid))))) ⟨by decide, by decide, by decide, by decide, by decide, by decide, by decide, by decide, by decide, by rw [hz]; omega⟩ (by decide) (S.size_fourN _)
  · unfold patSec
    rw [S.sealS_size, S.size_tabS, hz]; omega
theorem good_pmt {pr pid : Int} {info : ByteArray} (hi : info.size ≤ 100) (p0 : 1 ≤ pr) (p1 : pr ≤ 60000) : J.Good (pmtSec pr pid info) ∧ (pmtSec pr pid info).size ≤ 183 := by
  have hz := size_pmt pid info
  refine ⟨?_, ?_⟩
  · exact A.good_tab 2 pr 0 (S.pmtB 8191 ⟨#[]⟩ (strs pid info)) (S.fourN (S.sumN (S.tabS 2 pr 0 (S.pmtB 8191 ⟨#[]⟩ (strs pid info))))) ⟨by decide, by decide, by omega, by omega, by decide, by decide, by decide, by decide, by decide, by rw [hz]; omega⟩ (by decide) (S.size_fourN _)
  · unfold pmtSec
    rw [S.sealS_size, S.size_tabS, hz]; omega
end Go.Proofs.YtpkpfebhdgbgbaaGreatDoor.L
namespace Go.Proofs.YtpkpfebhdgbgbaaGreatDoor.A
open Go.RowKit
set_option linter.unusedSimpArgs false
set_option linter.unusedVariables false

def AwPost (w : World) (e : Ending) (w' : World) : Prop := e = .returned (.bool true) ∧ Same [] w w'
theorem five_cells {w : World} {v : Value} {x0 x1 x2 x3 x4 : Value} (h : Reads w 5 v 1 [x0, x1, x2, x3, x4]) : ∃ g o c, v = .slice (some ⟨g, o, none⟩) 1 c ∧ 1 ≤ c ∧ w.cell? ⟨g, o, none⟩ = some x0 ∧ w.cell? ⟨g, o + 1, none⟩ = some x1 ∧ w.cell? ⟨g, o + 2, none⟩ = some x2 ∧ w.cell? ⟨g, o + 3, none⟩ = some x3 ∧ w.cell? ⟨g, o + 4, none⟩ = some x4 := by
  rcases h with ⟨_, ⟨a, c, rfl, hsp, hac, hcell⟩ | ⟨_, h0⟩⟩
  · obtain ⟨g, o, sp⟩ := a
    simp only at hsp
    subst hsp
    exact ⟨g, o, c, rfl, hac, hcell 0 _ rfl, hcell 1 _ rfl, hcell 2 _ rfl, hcell 3 _ rfl, hcell 4 _ rfl⟩
  · cases h0
theorem one_cell {w : World} {v : Value} {x0 : Value} (h : Reads w 1 v 1 [x0]) : ∃ g o c, v = .slice (some ⟨g, o, none⟩) 1 c ∧ 1 ≤ c ∧ w.cell? ⟨g, o, none⟩ = some x0 := by
  rcases h with ⟨_, ⟨a, c, rfl, hsp, hac, hcell⟩ | ⟨_, h0⟩⟩
  · obtain ⟨g, o, sp⟩ := a
    simp only at hsp
    subst hsp
    exact ⟨g, o, c, rfl, hac, hcell 0 _ rfl⟩
  · cases h0
set_option maxRecDepth 100000 in
set_option maxHeartbeats 4000000 in
theorem awakeT (w : World) (ht : K.Tab w) : Calls Tryz.prog 7 #[] w (AwPost w) := by
  have hna : K.NumsAt (w.alloc (.cells #[.int .i64 30] 3)) (.slice (some ⟨w.heap.size, 0, none⟩) 1 1) [30] :=
    ⟨_, 1, rfl, Nat.le_refl _, by decide, fun i h => by
      have hi : i = 0 := by simpa using h
      subst hi
      exact ⟨_, rfl, rfl, (cell_of (heap_alloc_new w (.cells #[.int .i64 30] 3)) 0).trans rfl⟩⟩
  obtain ⟨d, hd⟩ : ∃ d, d = K.madeS 30 (UInt8.ofNat 1) := ⟨_, rfl⟩
  have hdl : dLk [30] ([30] : List Int).length = [d] := by rw [hd]; rfl
  have hdz : d.size = 50 := by rw [hd, (K.made_fine _ _).2]; rfl
  have hdc : Dg.checkE d = 0 := by rw [hd]; exact (K.made_fine _ _).1
  have hmd : Calls Tryz.prog 8 #[.slice (some ⟨w.heap.size, 0, none⟩) 1 1, .int .i64 64] (w.alloc (.cells #[.int .i64 30] 3)) (FrameOk (w.alloc (.cells #[.int .i64 30] 3)) 64 [d]) := by
    rw [← hdl]
    exact made_fn [30] _ 64 _ (ht.same ((Same.refl [] w).alloc _) (by simp)) hna (by decide) (by decide) (by decide)
  have HMD := Lib.hid hmd
  clear hdl hd hna hmd
  go_enter Tryz.func7, Tryz.ntmps7
  go_wp2_with fail
  (with_reducible refine HMD.out.mono ?_)
  rintro e9 w1 ⟨s1, p, bl, o, rfl, hf, hbl⟩
  have HF := Lib.hid hf; have HBL := Lib.hid hbl
  have S1 := Lib.hid (((Same.refl [] w).alloc (.cells #[.int .i64 30] 3)).trans_nil s1)
  clear s1 hf hbl
  go_wp2_with fail
  (with_reducible refine (bmake_one 5 HF.out (by decide) (by decide) (by omega) (by omega) hdc).mono ?_)
  rintro e9 w2 ⟨s2, v2, cc, hcc, rfl, B, hB, ho2⟩
  have S2 := Lib.hid (K.same_new S1.out s2 (fun x hx => by have := HBL.out x hx; rw [World.size_alloc] at this; omega))
  obtain ⟨s, hs⟩ : ∃ s, s = mpeS 5 0 true true 0 d ++ cc := ⟨_, rfl⟩
  rw [← hs] at ho2
  have hez : (V.encS 0 true true 0).size = 4 := by unfold V.encS; rw [size_strOf, length_pack]; simp [V.encBits, length_bitsOf]
  have hsz : s.size = 66 := by
    rw [hs, ByteArray.size_append, hcc]
    show (tabS 62 5 0 (V.encS 0 true true 0 ++ d)).size + 4 = 66
    rw [size_tabS, ByteArray.size_append, hez, hdz]
  have hgood : J.Good s := by
    rw [hs]
    exact good_tab 62 5 0 (V.encS 0 true true 0 ++ d) cc ⟨by decide, by decide, by decide, by decide, by decide, by decide, by decide, by decide, by decide, by rw [ByteArray.size_append, hez, hdz]; decide⟩ (by decide) hcc
  obtain ⟨S', hfeed⟩ := feed_one s hgood (by omega)
  have hpk := J.pack_one s (by omega) (by omega)
  have hst : J.StrsAt w2 v2 [s] := J.strs_of_own (L := [s]) ho2
  have HPK := Lib.hid (by have h9 := J.pack_ok 17 0 [s] v2 w2 (by decide) (by decide) (by decide) (by decide) hst (fun x hx => by rw [List.mem_singleton] at hx; rw [hx]; exact hgood) (by rw [J.catL_one]; omega); rw [hpk] at h9; exact h9)
  obtain ⟨g2, o2, c2, rfl, hc2, k2⟩ := one_cell (Reads.of_own ho2)
  have K2 := Lib.hid k2
  obtain ⟨M, hM⟩ : ∃ M, M = J.fillG (strOfNums [0] ++ s) := ⟨_, rfl⟩
  rw [← hM] at hfeed HPK
  have HFE := Lib.hid hfeed
  clear s2 ho2 hs hez hsz hgood hfeed hpk hst hM hcc hB k2 hdz hdc
  go_wp2_with fail
  (with_reducible refine HPK.out.mono ?_)
  rintro e9 w3 ⟨v3, rfl, ho3, _, s3⟩
  have S3 := Lib.hid (S2.out.trans_nil s3)
  have h3 : Reads w3 5 v3 1 [.int .i64 17, .bool true, .int .i64 0, .bool false, .string M] := Reads.of_own ho3
  obtain ⟨g3, o3, c3, rfl, hc3, m0, m1, m2, m3, m4⟩ := five_cells h3
  have K3 := Lib.hid (s3.cell K2.out (by simp))
  have M0 := Lib.hid m0; have M1 := Lib.hid m1; have M2 := Lib.hid m2; have M3 := Lib.hid m3; have M4 := Lib.hid m4
  clear s3 ho3 h3 m0 m1 m2 m3 m4
  go_wp2_with fail
  (with_reducible refine (J.jnew_ok 17 _ (by decide) (by decide)).mono ?_)
  rintro e9 w4 ⟨rfl, rfl⟩
  have hj : J.IsJS (w3.alloc (.cells (J.jV 17 ⟨#[]⟩ false 0 ⟨#[]⟩ 0) 148)) w3.heap.size 17 J.newS := heap_alloc_new w3 _
  have HFD := Lib.hid (by have h9 := J.jfeed_any 17 true 0 false M hj J.new_ok (by decide); rw [HFE.out] at h9; exact h9)
  have sA := (Same.refl [] w3).alloc (.cells (J.jV 17 ⟨#[]⟩ false 0 ⟨#[]⟩ 0) 148)
  have m0 := sA.cell M0.out (by simp); have m1 := sA.cell M1.out (by simp); have m2 := sA.cell M2.out (by simp); have m3 := sA.cell M3.out (by simp); have m4 := sA.cell M4.out (by simp)
  have hg2 : g2 < w3.heap.size := World.block_lt_of_cell? w3 _ K3.out
  have SA := Lib.hid (S3.out.trans_nil sA)
  have k3 := sA.cell K3.out (by simp)
  have K3A := Lib.hid k3
  clear hj sA k3
  generalize w3.alloc (.cells (J.jV 17 ⟨#[]⟩ false 0 ⟨#[]⟩ 0) 148) = wj at *
  go_wp2_with fail
  (with_reducible refine HFD.out.mono ?_)
  rintro e9 w5 ⟨v5, rfl, ⟨ho5, _⟩, _, s5⟩
  obtain ⟨g5, o5, c5, rfl, hc5, k5⟩ := one_cell (x0 := .string s) (Reads.of_own ho5)
  have k2 := s5.cell K3A.out (by simp; omega)
  have hb3 := S3.out.size
  have S5 := Lib.hid (SA.out.trans s5 (fun x hx hlt => by rw [List.mem_singleton] at hx; omega))
  have hss : (s.toList == s.toList) = true := by simp
  clear s5 ho5 m0 m1 m2 m3 m4
  go_wp2_with fail
  go_region
  all_goals
    go_wp2_with fail
    go_ret
    exact ⟨rfl, S5.out.drew⟩
end Go.Proofs.YtpkpfebhdgbgbaaGreatDoor.A
namespace Go.Proofs.YtpkpfebhdgbgbaaGreatDoor.L
open Go.RowKit
set_option linter.unusedSimpArgs false
set_option linter.unusedVariables false

set_option maxRecDepth 100000 in
set_option maxHeartbeats 4000000 in
theorem through_fn (pid : Int) (s : ByteArray) (w : World) (h0 : 0 ≤ pid) (h1 : pid ≤ 8000) (hgood : J.Good s) (hsz : s.size ≤ 183) :
    Calls Tryz.prog 16 #[.int .i64 pid, .string s] w (Ret (.tuple #[.string s, .bool true]) w) := by
  have h12 := hgood.size.1
  obtain ⟨S', hfeed⟩ := A.feed_one s hgood hsz
  have hpk := J.pack_one s (by omega) hsz
  have SA0 := Lib.hid ((Same.refl [] w).alloc (.cells #[.string s] 9))
  have HPK := Lib.hid (by have h9 := J.pack_ok pid 0 [s] _ (w.alloc (.cells #[.string s] 9)) h0 (by omega) (by decide) (by decide) (J.strs_of_own (L := [s]) (row_new w #[.string s] 9 1 rfl (by decide))) (fun x hx => by rw [List.mem_singleton] at hx; rw [hx]; exact hgood) (by rw [J.catL_one]; omega); rw [hpk] at h9; exact h9)
  obtain ⟨M, hM⟩ : ∃ M, M = J.fillG (strOfNums [0] ++ s) := ⟨_, rfl⟩
  rw [← hM] at hfeed HPK
  rw [← feed_pid pid _ _ _ _ _ h0 (by omega)] at hfeed
  have HFE := Lib.hid hfeed
  have hp1 : pid < 8191 := by omega
  clear hgood hsz hfeed hpk hM h12 h1
  go_enter Tryz.func16, Tryz.ntmps16
  go_wp2_with fail
  (with_reducible refine HPK.out.mono ?_)
  rintro e9 w3 ⟨v3, rfl, ho3, _, s3⟩
  have S3 := Lib.hid (SA0.out.trans_nil s3)
  have h3 : Reads w3 5 v3 1 [.int .i64 pid, .bool true, .int .i64 0, .bool false, .string M] := Reads.of_own ho3
  obtain ⟨g3, o3, c3, rfl, hc3, m0, m1, m2, m3, m4⟩ := A.five_cells h3
  have M0 := Lib.hid m0; have M1 := Lib.hid m1; have M2 := Lib.hid m2; have M3 := Lib.hid m3; have M4 := Lib.hid m4
  clear s3 ho3 h3 m0 m1 m2 m3 m4
  go_wp2_with fail
  (with_reducible refine (J.jnew_ok pid _ h0 hp1).mono ?_)
  rintro e9 w4 ⟨rfl, rfl⟩
  have hj : J.IsJS (w3.alloc (.cells (J.jV pid ⟨#[]⟩ false 0 ⟨#[]⟩ 0) 148)) w3.heap.size pid J.newS := heap_alloc_new w3 _
  have HFD := Lib.hid (by have h9 := J.jfeed_any pid true 0 false M hj J.new_ok (by decide); rw [HFE.out] at h9; exact h9)
  have sA := (Same.refl [] w3).alloc (.cells (J.jV pid ⟨#[]⟩ false 0 ⟨#[]⟩ 0) 148)
  have m0 := sA.cell M0.out (by simp); have m1 := sA.cell M1.out (by simp); have m2 := sA.cell M2.out (by simp); have m3 := sA.cell M3.out (by simp); have m4 := sA.cell M4.out (by simp)
  have SA := Lib.hid (S3.out.trans_nil sA)
  have SZ := Lib.hid S3.out.size
  clear hj sA
  generalize w3.alloc (.cells (J.jV pid ⟨#[]⟩ false 0 ⟨#[]⟩ 0) 148) = wj at *
  go_wp2_with fail
  refine wp_loop_rounds 2 ?_
  rw [rounds_succ]
  go_wp2_with fail
  (with_reducible refine HFD.out.mono ?_)
  rintro e9 w5 ⟨v5, rfl, ⟨ho5, _⟩, _, s5⟩
  obtain ⟨g5, o5, c5, rfl, hc5, k5⟩ := A.one_cell (x0 := .string s) (Reads.of_own ho5)
  have S5 := Lib.hid (SA.out.trans s5 (fun x hx hlt => by rw [List.mem_singleton] at hx; have := SZ.out; omega))
  have hss : (s.toList == s.toList) = true := by simp
  clear s5 ho5 m0 m1 m2 m3 m4
  go_wp2_with fail
  rw [rounds_succ]
  go_wp2_with fail
  go_ret2
  exact ⟨rfl, S5.out⟩
end Go.Proofs.YtpkpfebhdgbgbaaGreatDoor.L
namespace Go.Proofs.YtpkpfebhdgbgbaaGreatDoor.L
open Go.RowKit
set_option linter.unusedSimpArgs false
set_option linter.unusedVariables false

/-- The law's rows, and the first byte of their descriptor. -/
theorem rows_ok (c : Int) (h0 : 0 ≤ c) (h1 : c ≤ 3) : ∃ (R : Int) (z : Nat), 256 * (c + 1) = R ∧ z < 256 ∧ R.tmod 256 = 0 ∧ 256 ≤ R ∧ R ≤ 1024 ∧ D.headE R = z ∧
    (bits .and .i64 (z : Int) 128 != 0) = true ∧ (bits .and .i64 (z : Int) 32 != 0) = true ∧ wrap64 (256 * wrap64 (bits .and .i64 (z : Int) 7 + 1)) = R := by
  have hc : c = 0 ∨ c = 1 ∨ c = 2 ∨ c = 3 := by omega
  rcases hc with rfl | rfl | rfl | rfl
  · exact ⟨256, 184, by decide, by decide, by decide, by decide, by decide, by decide +kernel, by decide +kernel, by decide +kernel, by decide +kernel⟩
  · exact ⟨512, 185, by decide, by decide, by decide, by decide, by decide, by decide +kernel, by decide +kernel, by decide +kernel, by decide +kernel⟩
  · exact ⟨768, 186, by decide, by decide, by decide, by decide, by decide, by decide +kernel, by decide +kernel, by decide +kernel, by decide +kernel⟩
  · exact ⟨1024, 187, by decide, by decide, by decide, by decide, by decide, by decide +kernel, by decide +kernel, by decide +kernel, by decide +kernel⟩
def OutR (p a b c d : Int) : Prop := p < 1 ∨ 60000 < p ∨ a < 32 ∨ 8000 < a ∨ b < 32 ∨ 8000 < b ∨ a = b ∨ c < 0 ∨ 3 < c ∨ d < 0 ∨ 20 < d
set_option maxRecDepth 100000 in
set_option maxHeartbeats 4000000 in
theorem bad_same (p a c d : Int) (w : World) (ht : K.Tab w) :
    Calls Tryz.prog 4 #[.int .i64 p, .agg #[.int .i64 a, .int .i64 a], .agg #[.int .i64 c, .int .i64 d]] w (A.AwPost w) := by
  have HS0 := Lib.hid (((Same.refl [] w).alloc (.cells #[.int .i64 a, .int .i64 a] 37)).alloc (.cells #[.int .i64 c, .int .i64 d] 37))
  have HAW := Lib.hid (A.awakeT _ (ht.same HS0.out (by simp)))
  clear ht
  go_enter Tryz.func4, Tryz.ntmps4
  go_wp2_with (go_at_call 7; (with_reducible refine HAW.out.mono ?_); rintro e w' ⟨rfl, hs⟩; have HS := Lib.hid hs; clear hs)
  all_goals (go_ret; exact ⟨rfl, HS0.out.trans_nil HS.out⟩)
set_option maxRecDepth 100000 in
set_option maxHeartbeats 4000000 in
theorem bad_other (p a b c d : Int) (w : World) (ht : K.Tab w) (hne : (a == b) = false) (hb : OutR p a b c d) :
    Calls Tryz.prog 4 #[.int .i64 p, .agg #[.int .i64 a, .int .i64 b], .agg #[.int .i64 c, .int .i64 d]] w (A.AwPost w) := by
  have HS0 := Lib.hid (((Same.refl [] w).alloc (.cells #[.int .i64 a, .int .i64 b] 37)).alloc (.cells #[.int .i64 c, .int .i64 d] 37))
  have HAW := Lib.hid (A.awakeT _ (ht.same HS0.out (by simp)))
  have hab : a ≠ b := by simpa using hne
  have HB := Lib.hid hb; have HN := Lib.hid hab
  clear ht hb hab
  go_enter Tryz.func4, Tryz.ntmps4
  go_wp2_with (go_at_call 7; (with_reducible refine HAW.out.mono ?_); rintro e w' ⟨rfl, hs⟩; have HS := Lib.hid hs; clear hs)
  all_goals first
    | (have h9 := HB.out; unfold OutR at h9; have h8 := HN.out; exfalso; omega)
    | (go_ret; exact ⟨rfl, HS0.out.trans_nil HS.out⟩)
theorem topLearns_bad (p a b c d : Int) (w : World) (ht : K.Tab w) (hb : OutR p a b c d) :
    Calls Tryz.prog 4 #[.int .i64 p, .agg #[.int .i64 a, .int .i64 b], .agg #[.int .i64 c, .int .i64 d]] w (A.AwPost w) := by
  by_cases h : a = b
  · subst h; exact bad_same p a c d w ht
  · exact bad_other p a b c d w ht (by simpa using h) hb
end Go.Proofs.YtpkpfebhdgbgbaaGreatDoor.L
