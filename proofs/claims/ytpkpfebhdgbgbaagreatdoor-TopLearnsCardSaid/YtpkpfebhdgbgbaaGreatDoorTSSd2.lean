/- The section of bytes (section.Decode), as a function. Condition: the bytes are fewer than 2^40. -/
import Derived.Test.YtpkpfebhdgbgbaaGreatDoorTSSd1
namespace Go.Proofs.YtpkpfebhdgbgbaaGreatDoor.S
open Go.RowKit
set_option linter.unusedSimpArgs false
set_option linter.unusedVariables false

/-- The fields that the bytes ahead of the check sum tell. -/
def secOk (u : ByteArray) : Bool := decide (numFrom u 40 2 = 3) && decide (numFrom u 48 8 ≤ numFrom u 56 8)
def bodyS (u : ByteArray) : ByteArray := strOf (textFrom u 64 (u.size - 8))
def secA (u : ByteArray) : Array Value := #[.int .i64 (numFrom u 0 8 : Nat), .bool (numFrom u 9 1 == 1), .int .i64 (numFrom u 24 16 : Nat), .int .i64 (numFrom u 42 5 : Nat), .bool (numFrom u 47 1 == 1), .int .i64 (numFrom u 48 8 : Nat), .int .i64 (numFrom u 56 8 : Nat), .string (bodyS u)]
def secZ : Array Value := #[.int .i64 0, .bool false, .int .i64 0, .int .i64 0, .bool false, .int .i64 0, .int .i64 0, .string ⟨#[]⟩]
def decE (t : ByteArray) : Int :=
  if needE t ≠ 0 then needE t else if t.size < needN t then 10 else if needN t < t.size then 11 else if openE t ≠ 0 then openE t else if secOk (openS t) = true then 0 else 12
def decA (t : ByteArray) : Array Value := if decE t = 0 then secA (openS t) else secZ
theorem set_eight {c : Array Value} (hc : c.size = 8) {y0 y1 y2 y3 y4 y5 y6 y7 : Value} :
    (((((((c.setIfInBounds 0 y0).setIfInBounds 1 y1).setIfInBounds 2 y2).setIfInBounds 3 y3).setIfInBounds 4 y4).setIfInBounds 5 y5).setIfInBounds 6 y6).setIfInBounds 7 y7 = #[y0, y1, y2, y3, y4, y5, y6, y7] := by
  refine Array.ext_getElem? fun i => ?_
  simp only [Array.getElem?_setIfInBounds, Array.size_setIfInBounds, hc]
  by_cases h8 : i < 8
  · have hi : i = 0 ∨ i = 1 ∨ i = 2 ∨ i = 3 ∨ i = 4 ∨ i = 5 ∨ i = 6 ∨ i = 7 := by omega
    rcases hi with rfl | rfl | rfl | rfl | rfl | rfl | rfl | rfl <;> rfl
  · rw [if_neg (by omega), if_neg (by omega), if_neg (by omega), if_neg (by omega), if_neg (by omega), if_neg (by omega), if_neg (by omega), if_neg (by omega), Array.getElem?_eq_none (by omega), Array.getElem?_eq_none (by simp; omega)]
/-- The eight cells of a section, stored anew. -/
theorem sec_chain {w v : World} {B : Nat} {c : Array Value} (hr : v.heap[B]? = some (.cells c 124 (0, 0))) (hc : c.size = 8) (hs : Same [] w v) (hB : w.heap.size ≤ B) (y0 y1 y2 y3 y4 y5 y6 y7 : Value) :
    ((((((((v.setCell ⟨B, 0, none⟩ y0).setCell ⟨B, 1, none⟩ y1).setCell ⟨B, 2, none⟩ y2).setCell ⟨B, 3, none⟩ y3).setCell ⟨B, 4, none⟩ y4).setCell ⟨B, 5, none⟩ y5).setCell ⟨B, 6, none⟩ y6).setCell ⟨B, 7, none⟩ y7).heap[B]? = some (.cells #[y0, y1, y2, y3, y4, y5, y6, y7] 124 (0, 0)) ∧
    Same [] w ((((((((v.setCell ⟨B, 0, none⟩ y0).setCell ⟨B, 1, none⟩ y1).setCell ⟨B, 2, none⟩ y2).setCell ⟨B, 3, none⟩ y3).setCell ⟨B, 4, none⟩ y4).setCell ⟨B, 5, none⟩ y5).setCell ⟨B, 6, none⟩ y6).setCell ⟨B, 7, none⟩ y7) := by
  refine ⟨?_, (((((((hs.setCell (fun h => ?_) y0).setCell (fun h => ?_) y1).setCell (fun h => ?_) y2).setCell (fun h => ?_) y3).setCell (fun h => ?_) y4).setCell (fun h => ?_) y5).setCell (fun h => ?_) y6).setCell (fun h => ?_) y7⟩
  · have h8 := set_same (i := 7) (set_same (i := 6) (set_same (i := 5) (set_same (i := 4) (set_same (i := 3) (set_same (i := 2) (set_same (i := 1) (set_same (i := 0) hr y0) y1) y2) y3) y4) y5) y6) y7
    rw [h8, set_eight hc]
  all_goals exact absurd h (by simp; omega)
theorem sec_cells {w : World} {b : Nat} {y0 y1 y2 y3 y4 y5 y6 y7 : Value} (h : w.heap[b]? = some (.cells #[y0, y1, y2, y3, y4, y5, y6, y7] 124 (0, 0))) :
    w.cell? ⟨b, 0, none⟩ = some y0 ∧ w.cell? ⟨b, 1, none⟩ = some y1 ∧ w.cell? ⟨b, 2, none⟩ = some y2 ∧ w.cell? ⟨b, 3, none⟩ = some y3 ∧ w.cell? ⟨b, 4, none⟩ = some y4 ∧ w.cell? ⟨b, 5, none⟩ = some y5 ∧ w.cell? ⟨b, 6, none⟩ = some y6 ∧ w.cell? ⟨b, 7, none⟩ = some y7 ∧ ∀ i, w.frozen? ⟨b, i, none⟩ = false := by
  refine ⟨?_, ?_, ?_, ?_, ?_, ?_, ?_, ?_, fun i => free_of h i⟩ <;> exact (cell_of h _).trans rfl
/-- Where it is no section for its length, or its check sum. -/
def earlyE (t : ByteArray) : Int := if needE t ≠ 0 then needE t else if t.size < needN t then 10 else if needN t < t.size then 11 else openE t
set_option maxRecDepth 100000 in
set_option maxHeartbeats 4000000 in
theorem sdecode_early (t : ByteArray) (w : World) (hs : t.size < 1099511627776) (he : earlyE t ≠ 0) : Calls Tryz.prog 94 #[.string t] w (Ret (.tuple #[.agg secZ, .int .i64 (earlyE t)]) w) := by
  have HN := Lib.hid (fun W => need_fn t W hs)
  have HO := Lib.hid (fun W => open_fn t W hs)
  have HR := Lib.hid (heap_alloc_new w (.cells #[.int .i64 0, .bool false, .int .i64 0, .int .i64 0, .bool false, .int .i64 0, .int .i64 0, .string ⟨#[]⟩] 124))
  obtain ⟨ne, hne⟩ : ∃ ne, ne = needE t := ⟨_, rfl⟩
  obtain ⟨nn, hnn⟩ : ∃ nn, nn = needN t := ⟨_, rfl⟩
  obtain ⟨oe, hoe⟩ : ∃ oe, oe = openE t := ⟨_, rfl⟩
  obtain ⟨os, hos⟩ : ∃ os, os = openS t := ⟨_, rfl⟩
  have hE : earlyE t = if ne ≠ 0 then ne else if t.size < nn then 10 else if nn < t.size then 11 else oe := by rw [hne, hnn, hoe]; rfl
  rw [← hne, ← hnn] at HN
  rw [← hoe, ← hos] at HO
  have hcase : (ne ≠ 0 ∧ earlyE t = ne) ∨ (ne = 0 ∧ t.size < nn ∧ earlyE t = 10) ∨ (ne = 0 ∧ ¬ t.size < nn ∧ nn < t.size ∧ earlyE t = 11) ∨ (ne = 0 ∧ ¬ t.size < nn ∧ ¬ nn < t.size ∧ oe ≠ 0 ∧ earlyE t = oe) := by
    by_cases h1 : ne = 0
    · rw [if_neg (fun h => h h1)] at hE
      by_cases h2 : t.size < nn
      · rw [if_pos h2] at hE; exact .inr (.inl ⟨h1, h2, hE⟩)
      · rw [if_neg h2] at hE
        by_cases h3 : nn < t.size
        · rw [if_pos h3] at hE; exact .inr (.inr (.inl ⟨h1, h2, h3, hE⟩))
        · rw [if_neg h3] at hE; exact .inr (.inr (.inr ⟨h1, h2, h3, by rw [← hE]; exact he, hE⟩))
    · rw [if_pos h1] at hE; exact .inl ⟨h1, hE⟩
  clear hne hnn hoe hos hE he
  rcases hcase with ⟨h1, hE⟩ | ⟨rfl, h2, hE⟩ | ⟨rfl, h2, h3, hE⟩ | ⟨rfl, h2, h3, h4, hE⟩
  · have h1i : (ne != 0) = true := by simpa using h1
    rw [hE]
    clear hE
    go_enter Tryz.func94, Tryz.ntmps94
    go_wp2_with fail
    (with_reducible refine (HN.out _).mono ?_)
    rintro e w1 ⟨rfl, s1⟩
    have hr1 := s1.heap HR.out (by simp)
    have S1 := Lib.hid (((Same.refl [] w).alloc (.cells #[.int .i64 0, .bool false, .int .i64 0, .int .i64 0, .bool false, .int .i64 0, .int .i64 0, .string ⟨#[]⟩] 124)).trans_nil s1)
    clear s1
    obtain ⟨r0, r1, r2, r3, r4, r5, r6, r7, rf⟩ := sec_cells hr1
    have hch := sec_chain hr1 rfl S1.out (Nat.le_refl _) (.int .i64 0) (.bool false) (.int .i64 0) (.int .i64 0) (.bool false) (.int .i64 0) (.int .i64 0) (.string ⟨#[]⟩)
    clear hr1
    go_wp2_with fail
    clear r0 r1 r2 r3 r4 r5 r6 r7 rf
    obtain ⟨hc1, hc2⟩ := hch
    obtain ⟨k0, k1, k2, k3, k4, k5, k6, k7, _⟩ := sec_cells hc1
    refine bodyPost_ret (v := .tuple #[.agg secZ, .int .i64 (ne)]) ?_ rfl ⟨rfl, hc2⟩
    simp [results, Tryz.results94, go_sem, k0, k1, k2, k3, k4, k5, k6, k7, secZ]
  · have h2i : (t.size : Int) < (nn : Int) := by omega
    rw [hE]
    clear hE
    go_enter Tryz.func94, Tryz.ntmps94
    go_wp2_with fail
    (with_reducible refine (HN.out _).mono ?_)
    rintro e w1 ⟨rfl, s1⟩
    have hr1 := s1.heap HR.out (by simp)
    have S1 := Lib.hid (((Same.refl [] w).alloc (.cells #[.int .i64 0, .bool false, .int .i64 0, .int .i64 0, .bool false, .int .i64 0, .int .i64 0, .string ⟨#[]⟩] 124)).trans_nil s1)
    clear s1
    obtain ⟨r0, r1, r2, r3, r4, r5, r6, r7, rf⟩ := sec_cells hr1
    have hch := sec_chain hr1 rfl S1.out (Nat.le_refl _) (.int .i64 0) (.bool false) (.int .i64 0) (.int .i64 0) (.bool false) (.int .i64 0) (.int .i64 0) (.string ⟨#[]⟩)
    clear hr1
    go_wp2_with fail
    clear r0 r1 r2 r3 r4 r5 r6 r7 rf
    obtain ⟨hc1, hc2⟩ := hch
    obtain ⟨k0, k1, k2, k3, k4, k5, k6, k7, _⟩ := sec_cells hc1
    refine bodyPost_ret (v := .tuple #[.agg secZ, .int .i64 (10)]) ?_ rfl ⟨rfl, hc2⟩
    simp [results, Tryz.results94, go_sem, k0, k1, k2, k3, k4, k5, k6, k7, secZ]
  · have h2i : ¬ (t.size : Int) < (nn : Int) := by omega
    have h3i : (nn : Int) < (t.size : Int) := by omega
    rw [hE]
    clear hE
    go_enter Tryz.func94, Tryz.ntmps94
    go_wp2_with fail
    (with_reducible refine (HN.out _).mono ?_)
    rintro e w1 ⟨rfl, s1⟩
    have hr1 := s1.heap HR.out (by simp)
    have S1 := Lib.hid (((Same.refl [] w).alloc (.cells #[.int .i64 0, .bool false, .int .i64 0, .int .i64 0, .bool false, .int .i64 0, .int .i64 0, .string ⟨#[]⟩] 124)).trans_nil s1)
    clear s1
    obtain ⟨r0, r1, r2, r3, r4, r5, r6, r7, rf⟩ := sec_cells hr1
    have hch := sec_chain hr1 rfl S1.out (Nat.le_refl _) (.int .i64 0) (.bool false) (.int .i64 0) (.int .i64 0) (.bool false) (.int .i64 0) (.int .i64 0) (.string ⟨#[]⟩)
    clear hr1
    go_wp2_with fail
    clear r0 r1 r2 r3 r4 r5 r6 r7 rf
    obtain ⟨hc1, hc2⟩ := hch
    obtain ⟨k0, k1, k2, k3, k4, k5, k6, k7, _⟩ := sec_cells hc1
    refine bodyPost_ret (v := .tuple #[.agg secZ, .int .i64 (11)]) ?_ rfl ⟨rfl, hc2⟩
    simp [results, Tryz.results94, go_sem, k0, k1, k2, k3, k4, k5, k6, k7, secZ]
  · have h2i : ¬ (t.size : Int) < (nn : Int) := by omega
    have h3i : ¬ (nn : Int) < (t.size : Int) := by omega
    have h4i : (oe != 0) = true := by simpa using h4
    rw [hE]
    clear hE
    go_enter Tryz.func94, Tryz.ntmps94
    go_wp2_with fail
    (with_reducible refine (HN.out _).mono ?_)
    rintro e w1 ⟨rfl, s1⟩
    have hr1 := s1.heap HR.out (by simp)
    have S1 := Lib.hid (((Same.refl [] w).alloc (.cells #[.int .i64 0, .bool false, .int .i64 0, .int .i64 0, .bool false, .int .i64 0, .int .i64 0, .string ⟨#[]⟩] 124)).trans_nil s1)
    clear s1
    go_wp2_with fail
    (with_reducible refine (HO.out _).mono ?_)
    rintro e w2 ⟨rfl, s2⟩
    have hr2 := s2.heap hr1 (by simp)
    have S2 := Lib.hid (S1.out.trans_nil s2)
    clear s2 hr1
    obtain ⟨r0, r1, r2, r3, r4, r5, r6, r7, rf⟩ := sec_cells hr2
    have hch := sec_chain hr2 rfl S2.out (Nat.le_refl _) (.int .i64 0) (.bool false) (.int .i64 0) (.int .i64 0) (.bool false) (.int .i64 0) (.int .i64 0) (.string ⟨#[]⟩)
    clear hr2
    go_wp2_with fail
    clear r0 r1 r2 r3 r4 r5 r6 r7 rf
    obtain ⟨hc1, hc2⟩ := hch
    obtain ⟨k0, k1, k2, k3, k4, k5, k6, k7, _⟩ := sec_cells hc1
    refine bodyPost_ret (v := .tuple #[.agg secZ, .int .i64 (oe)]) ?_ rfl ⟨rfl, hc2⟩
    simp [results, Tryz.results94, go_sem, k0, k1, k2, k3, k4, k5, k6, k7, secZ]
/-- The reader and the section under way. -/
def SX (w3 : World) (I X : Nat) (s : ByteArray) (p : Nat) (c : Array Value) (v : World) : Prop := Same [I, X] w3 v ∧ IsIn v I p 0 s ∧ v.heap[X]? = some (.cells c 124 (0, 0))
theorem SX.set {w3 v : World} {I X p : Nat} {s : ByteArray} {c : Array Value} (h : SX w3 I X s p c v) (hne : I ≠ X) (k : Nat) (u : Value) : SX w3 I X s p (c.setIfInBounds k u) (v.setCell ⟨X, k, none⟩ u) :=
  ⟨h.1.setCell (fun _ => by simp) u, (set_other u hne).trans h.2.1, set_same h.2.2 u⟩
theorem SX.get {w3 v : World} {I X p n : Nat} {m : Int} {s : ByteArray} {c : Array Value} (h : SX w3 I X s p c v) (hne : I ≠ X) (hm : (n : Int) = m) (hs : s.size < 1099511627776) (hp : p + n ≤ 8 * s.size) (hn : n ≤ 64) :
    Calls Tryz.prog 130 #[.pointer (some ⟨I, 0, none⟩), .int .i64 m] v (fun e v' => e = .returned (.int .u64 (numFrom s p n)) ∧ SX w3 I X s (p + n) c v') :=
  (gat_at I p n m hm s v v h.2.1 (Same.refl _ _) hs hp hn).mono fun e v' ⟨h1, h2, h3⟩ => ⟨h1, h.1.trans h3 (fun x hx _ => by simp at hx; simp [hx]), h2, h3.heap h.2.2 (by simp; exact fun e => hne e.symm)⟩
theorem SX.text {w3 v : World} {I X p n : Nat} {s : ByteArray} {c : Array Value} (h : SX w3 I X s p c v) (hne : I ≠ X) (hs : s.size < 1099511627776) (hp : p + 8 * n ≤ 8 * s.size) :
    Calls Tryz.prog 131 #[.pointer (some ⟨I, 0, none⟩), .int .i64 n] v (fun e v' => e = .returned (.string (strOf (textFrom s p n))) ∧ SX w3 I X s (p + 8 * n) c v') :=
  (rtext_ok I p n s v h.2.1 hs hp).mono fun e v' ⟨h1, h2, h3⟩ => ⟨h1, h.1.trans h3 (fun x hx _ => by simp at hx; simp [hx]), h2, h3.heap h.2.2 (by simp; exact fun e => hne e.symm)⟩
theorem SX.cells {w3 v : World} {I X p : Nat} {s : ByteArray} {c : Array Value} (h : SX w3 I X s p c v) (i : Nat) : v.cell? ⟨X, i, none⟩ = c[i]? := cell_of h.2.2 i
theorem SX.free {w3 v : World} {I X p : Nat} {s : ByteArray} {c : Array Value} (h : SX w3 I X s p c v) (i : Nat) : v.frozen? ⟨X, i, none⟩ = false := free_of h.2.2 i
theorem beq_oneN (a : Nat) : ((a : Int) == 1) = (a == 1) := by rw [Bool.eq_iff_iff]; simp; omega
theorem beq_threeN (a : Nat) : ((a : Int) == 3) = decide (a = 3) := by rw [Bool.eq_iff_iff]; simp; omega
set_option maxRecDepth 100000 in
set_option maxHeartbeats 8000000 in
theorem sdecode_late (t : ByteArray) (w : World) (hs : t.size < 1099511627776) (he : earlyE t = 0) : Calls Tryz.prog 94 #[.string t] w (Ret (.tuple #[.agg (if secOk (openS t) = true then secA (openS t) else secZ), .int .i64 (if secOk (openS t) = true then 0 else 12)]) w) := by
  have HN := Lib.hid (fun W => need_fn t W hs)
  have HO := Lib.hid (fun W => open_fn t W hs)
  have HR := Lib.hid (heap_alloc_new w (.cells #[.int .i64 0, .bool false, .int .i64 0, .int .i64 0, .bool false, .int .i64 0, .int .i64 0, .string ⟨#[]⟩] 124))
  have hfacts : needE t = 0 ∧ needN t = t.size ∧ openE t = 0 := by
    unfold earlyE at he
    by_cases h1 : needE t = 0
    · rw [if_neg (fun h => h h1)] at he
      by_cases h2 : t.size < needN t
      · rw [if_pos h2] at he; cases he
      · rw [if_neg h2] at he
        by_cases h3 : needN t < t.size
        · rw [if_pos h3] at he; cases he
        · rw [if_neg h3] at he; exact ⟨h1, by omega, he⟩
    · rw [if_pos h1] at he; exact absurd he h1
  obtain ⟨h1, h2, h3⟩ := hfacts
  have h12 := need_some h1
  rw [h2] at h12
  have huz : (openS t).size = t.size - 4 := by unfold openS; rw [if_pos h3, ByteArray.size_extract]; omega
  rw [h1, h2] at HN
  rw [h3] at HO
  obtain ⟨u, hu⟩ : ∃ u, u = openS t := ⟨_, rfl⟩
  rw [← hu] at HO huz ⊢
  obtain ⟨zv, hzv⟩ : ∃ zv, zv = (if secOk u = true then secA u else secZ) := ⟨_, rfl⟩
  obtain ⟨ze, hze⟩ : ∃ ze : Int, ze = (if secOk u = true then 0 else 12) := ⟨_, rfl⟩
  rw [← hzv, ← hze]
  have HZV := Lib.hid hzv; have HZE := Lib.hid hze
  have hus : u.size < 1099511627776 := by omega
  have hu8 : 8 ≤ u.size := by omega
  have hu9 : u.size ≤ 4092 := by omega
  have HUS := Lib.hid hus; have HU8 := Lib.hid hu8; have HU9 := Lib.hid hu9
  have htl : ¬ (t.size : Int) < (t.size : Int) := by omega
  clear h1 h2 h3 h12 huz hu hus hu8 hu9 he hzv hze
  go_enter Tryz.func94, Tryz.ntmps94
  go_wp2_with fail
  (with_reducible refine (HN.out _).mono ?_)
  rintro e w1 ⟨rfl, s1⟩
  have hr1 := s1.heap HR.out (by simp)
  have S1 := Lib.hid (((Same.refl [] w).alloc (.cells #[.int .i64 0, .bool false, .int .i64 0, .int .i64 0, .bool false, .int .i64 0, .int .i64 0, .string ⟨#[]⟩] 124)).trans_nil s1)
  clear s1
  go_wp2_with fail
  (with_reducible refine (HO.out _).mono ?_)
  rintro e w2 ⟨rfl, s2⟩
  have hr2 := s2.heap hr1 (by simp)
  have S2 := Lib.hid (S1.out.trans_nil s2)
  clear s2 hr1
  go_wp2_with fail
  (with_reducible refine (read_any _ _).mono ?_)
  rintro e w3 ⟨rfl, rfl⟩
  have hin := isIn_new w2 u
  have hr3 := ((Same.refl [] w2).alloc (.cells #[.int .i64 0, .int .i64 0, .string u] 258)).heap hr2 (by simp)
  have S3 := Lib.hid (S2.out.alloc (.cells #[.int .i64 0, .int .i64 0, .string u] 258))
  have hlt := heap_lt hr2
  obtain ⟨I, hI⟩ : ∃ I, I = w2.heap.size := ⟨_, rfl⟩
  have hI9 : w.heap.size ≤ I := by rw [hI]; have := S2.out.size; omega
  rw [← hI] at hin hlt ⊢
  generalize w2.alloc (.cells #[.int .i64 0, .int .i64 0, .string u] 258) = w3 at *
  have HIN := Lib.hid hin
  clear hin hr2 hI
  go_wp2_with fail
  (with_reducible refine (gat_at I 0 8 8 rfl u w3 w3 HIN.out (Same.refl _ _) HUS.out (by have := HU8.out; omega) (by omega)).mono ?_)
  rintro e w4 ⟨rfl, i4, s4⟩
  have hlt0 := numFrom_lt u 0 8
  obtain ⟨a0, ha0⟩ : ∃ a, numFrom u 0 8 = a := ⟨_, rfl⟩
  rw [ha0] at hlt0
  rw [ha0]
  have A0 := Lib.hid ha0
  have hr4 := s4.heap hr3 (by simp; omega)
  have hIs := heap_lt i4
  have S4 := Lib.hid (S3.out.trans s4 (fun y hy h9 => absurd h9 (by simp at hy; omega)))
  have HI4 := Lib.hid i4; have HR4 := Lib.hid hr4
  have D := Lib.hid (show SX w4 I w4.heap.size u 8 #[.int .i64 (a0 : Nat), .bool false, .int .i64 0, .int .i64 0, .bool false, .int .i64 0, .int .i64 0, .string ⟨#[]⟩] _ from ⟨(Same.refl _ w4).alloc _, (Below.heap_alloc _ _ _ hIs).trans i4, heap_alloc_new w4 (.cells #[.int .i64 (a0 : Nat), .bool false, .int .i64 0, .int .i64 0, .bool false, .int .i64 0, .int .i64 0, .string ⟨#[]⟩] 124)⟩)
  clear ha0 s4 i4 hr4 hr3
  go_wp2_with fail
  (with_reducible refine Calls.mono (SX.get (n := 1) D.out (by omega) rfl HUS.out (by have := HU8.out; omega) (by omega)) ?_)
  rintro e v1 ⟨rfl, hd⟩
  have hlt1 := numFrom_lt u 8 1
  obtain ⟨a1, ha1⟩ : ∃ a, numFrom u 8 1 = a := ⟨_, rfl⟩
  rw [ha1] at hlt1
  rw [ha1]
  have A1 := Lib.hid ha1
  have D := Lib.hid hd
  clear hd ha1
  go_wp2_with fail
  (with_reducible refine Calls.mono (SX.get (n := 1) D.out (by omega) rfl HUS.out (by have := HU8.out; omega) (by omega)) ?_)
  rintro e v2 ⟨rfl, hd⟩
  have hlt2 := numFrom_lt u 9 1
  obtain ⟨a2, ha2⟩ : ∃ a, numFrom u 9 1 = a := ⟨_, rfl⟩
  rw [ha2] at hlt2
  rw [ha2]
  have A2 := Lib.hid ha2
  have hc := hd.cells 1
  have hf := hd.free 1
  simp only [List.getElem?_toArray, List.getElem?_cons_zero, List.getElem?_cons_succ] at hc
  have D := Lib.hid (show SX w4 I w4.heap.size u 10 #[.int .i64 (a0 : Nat), .bool ((a2 : Int) == 1), .int .i64 0, .int .i64 0, .bool false, .int .i64 0, .int .i64 0, .string ⟨#[]⟩] _ from hd.set (by omega) 1 (.bool ((a2 : Int) == 1)))
  clear hd ha2
  go_wp2_with fail
  clear hc hf
  (with_reducible refine Calls.mono (SX.get (n := 14) D.out (by omega) rfl HUS.out (by have := HU8.out; omega) (by omega)) ?_)
  rintro e v3 ⟨rfl, hd⟩
  have hlt3 := numFrom_lt u 10 14
  obtain ⟨a3, ha3⟩ : ∃ a, numFrom u 10 14 = a := ⟨_, rfl⟩
  rw [ha3] at hlt3
  rw [ha3]
  have A3 := Lib.hid ha3
  have D := Lib.hid hd
  clear hd ha3
  go_wp2_with fail
  (with_reducible refine Calls.mono (SX.get (n := 16) D.out (by omega) rfl HUS.out (by have := HU8.out; omega) (by omega)) ?_)
  rintro e v4 ⟨rfl, hd⟩
  have hlt4 := numFrom_lt u 24 16
  obtain ⟨a4, ha4⟩ : ∃ a, numFrom u 24 16 = a := ⟨_, rfl⟩
  rw [ha4] at hlt4
  rw [ha4]
  have A4 := Lib.hid ha4
  have hc := hd.cells 2
  have hf := hd.free 2
  simp only [List.getElem?_toArray, List.getElem?_cons_zero, List.getElem?_cons_succ] at hc
  have D := Lib.hid (show SX w4 I w4.heap.size u 40 #[.int .i64 (a0 : Nat), .bool ((a2 : Int) == 1), .int .i64 (a4 : Nat), .int .i64 0, .bool false, .int .i64 0, .int .i64 0, .string ⟨#[]⟩] _ from hd.set (by omega) 2 (.int .i64 (a4 : Nat)))
  clear hd ha4
  go_wp2_with fail
  clear hc hf
  (with_reducible refine Calls.mono (SX.get (n := 2) D.out (by omega) rfl HUS.out (by have := HU8.out; omega) (by omega)) ?_)
  rintro e v5 ⟨rfl, hd⟩
  have hlt5 := numFrom_lt u 40 2
  obtain ⟨a5, ha5⟩ : ∃ a, numFrom u 40 2 = a := ⟨_, rfl⟩
  rw [ha5] at hlt5
  rw [ha5]
  have A5 := Lib.hid ha5
  have D := Lib.hid hd
  clear hd ha5
  go_wp2_with fail
  (with_reducible refine Calls.mono (SX.get (n := 5) D.out (by omega) rfl HUS.out (by have := HU8.out; omega) (by omega)) ?_)
  rintro e v6 ⟨rfl, hd⟩
  have hlt6 := numFrom_lt u 42 5
  obtain ⟨a6, ha6⟩ : ∃ a, numFrom u 42 5 = a := ⟨_, rfl⟩
  rw [ha6] at hlt6
  rw [ha6]
  have A6 := Lib.hid ha6
  have hc := hd.cells 3
  have hf := hd.free 3
  simp only [List.getElem?_toArray, List.getElem?_cons_zero, List.getElem?_cons_succ] at hc
  have D := Lib.hid (show SX w4 I w4.heap.size u 47 #[.int .i64 (a0 : Nat), .bool ((a2 : Int) == 1), .int .i64 (a4 : Nat), .int .i64 (a6 : Nat), .bool false, .int .i64 0, .int .i64 0, .string ⟨#[]⟩] _ from hd.set (by omega) 3 (.int .i64 (a6 : Nat)))
  clear hd ha6
  go_wp2_with fail
  clear hc hf
  (with_reducible refine Calls.mono (SX.get (n := 1) D.out (by omega) rfl HUS.out (by have := HU8.out; omega) (by omega)) ?_)
  rintro e v7 ⟨rfl, hd⟩
  have hlt7 := numFrom_lt u 47 1
  obtain ⟨a7, ha7⟩ : ∃ a, numFrom u 47 1 = a := ⟨_, rfl⟩
  rw [ha7] at hlt7
  rw [ha7]
  have A7 := Lib.hid ha7
  have hc := hd.cells 4
  have hf := hd.free 4
  simp only [List.getElem?_toArray, List.getElem?_cons_zero, List.getElem?_cons_succ] at hc
  have D := Lib.hid (show SX w4 I w4.heap.size u 48 #[.int .i64 (a0 : Nat), .bool ((a2 : Int) == 1), .int .i64 (a4 : Nat), .int .i64 (a6 : Nat), .bool ((a7 : Int) == 1), .int .i64 0, .int .i64 0, .string ⟨#[]⟩] _ from hd.set (by omega) 4 (.bool ((a7 : Int) == 1)))
  clear hd ha7
  go_wp2_with fail
  clear hc hf
  (with_reducible refine Calls.mono (SX.get (n := 8) D.out (by omega) rfl HUS.out (by have := HU8.out; omega) (by omega)) ?_)
  rintro e v8 ⟨rfl, hd⟩
  have hlt8 := numFrom_lt u 48 8
  obtain ⟨a8, ha8⟩ : ∃ a, numFrom u 48 8 = a := ⟨_, rfl⟩
  rw [ha8] at hlt8
  rw [ha8]
  have A8 := Lib.hid ha8
  have hc := hd.cells 5
  have hf := hd.free 5
  simp only [List.getElem?_toArray, List.getElem?_cons_zero, List.getElem?_cons_succ] at hc
  have D := Lib.hid (show SX w4 I w4.heap.size u 56 #[.int .i64 (a0 : Nat), .bool ((a2 : Int) == 1), .int .i64 (a4 : Nat), .int .i64 (a6 : Nat), .bool ((a7 : Int) == 1), .int .i64 (a8 : Nat), .int .i64 0, .string ⟨#[]⟩] _ from hd.set (by omega) 5 (.int .i64 (a8 : Nat)))
  clear hd ha8
  go_wp2_with fail
  clear hc hf
  (with_reducible refine Calls.mono (SX.get (n := 8) D.out (by omega) rfl HUS.out (by have := HU8.out; omega) (by omega)) ?_)
  rintro e v9 ⟨rfl, hd⟩
  have hlt9 := numFrom_lt u 56 8
  obtain ⟨a9, ha9⟩ : ∃ a, numFrom u 56 8 = a := ⟨_, rfl⟩
  rw [ha9] at hlt9
  rw [ha9]
  have A9 := Lib.hid ha9
  have hc := hd.cells 6
  have hf := hd.free 6
  simp only [List.getElem?_toArray, List.getElem?_cons_zero, List.getElem?_cons_succ] at hc
  have D := Lib.hid (show SX w4 I w4.heap.size u 64 #[.int .i64 (a0 : Nat), .bool ((a2 : Int) == 1), .int .i64 (a4 : Nat), .int .i64 (a6 : Nat), .bool ((a7 : Int) == 1), .int .i64 (a8 : Nat), .int .i64 (a9 : Nat), .string ⟨#[]⟩] _ from hd.set (by omega) 6 (.int .i64 (a9 : Nat)))
  clear hd ha9
  go_wp2_with fail
  clear hc hf
  obtain ⟨n8, hn8⟩ : ∃ n8 : Nat, n8 = u.size - 8 := ⟨_, rfl⟩
  have hle : (u.size : Int) * 8 - ((64 : Nat) : Int) = 8 * (n8 : Int) := by have := HU8.out; omega
  have hle2 : (u.size : Int) * 8 - 64 = 8 * (n8 : Int) := by have := HU8.out; omega
  have htd : (8 * (n8 : Int)).tdiv 8 = (n8 : Int) := Int.mul_tdiv_cancel_left _ (by decide)
  have htd2 : (8 * (n8 : Int)) / 8 = (n8 : Int) := by omega
  have hn9 : n8 ≤ 4084 := by have := HU9.out; omega
  have HN8 := Lib.hid hn8
  have hlf := left_ok I 64 0 u _ D.out.2.1 HUS.out (by have := HU8.out; omega)
  rw [hle] at hlf
  have HLF := Lib.hid hlf
  clear hn8 hlf
  (with_reducible refine HLF.out.mono ?_)
  rintro e v10 ⟨rfl, rfl⟩
  go_wp2_with fail
  (with_reducible refine Calls.mono (SX.text (n := n8) D.out (by omega) HUS.out (by have := HU8.out; have := HN8.out; omega)) ?_)
  rintro e v10 ⟨rfl, hd⟩
  obtain ⟨b, hb⟩ : ∃ b, strOf (textFrom u 64 n8) = b := ⟨_, rfl⟩
  rw [hb]
  have hbz : b.size ≤ 4084 := by rw [← hb, size_strOf]; unfold textFrom; rw [List.length_map, List.length_range]; exact hn9
  have HBB := Lib.hid hb
  have hc := hd.cells 7
  have hf := hd.free 7
  simp only [List.getElem?_toArray, List.getElem?_cons_zero, List.getElem?_cons_succ] at hc
  have D := Lib.hid (show SX w4 I w4.heap.size u (64 + 8 * n8) #[.int .i64 (a0 : Nat), .bool ((a2 : Int) == 1), .int .i64 (a4 : Nat), .int .i64 (a6 : Nat), .bool ((a7 : Int) == 1), .int .i64 (a8 : Nat), .int .i64 (a9 : Nat), .string b] _ from hd.set (by omega) 7 (.string b))
  clear hd hb hle hle2 htd htd2
  go_upto_region 23 with fail
  clear hc hf
  have x0 := D.out.cells 0; have x1 := D.out.cells 1; have x2 := D.out.cells 2; have x3 := D.out.cells 3; have x4 := D.out.cells 4; have x5 := D.out.cells 5; have x6 := D.out.cells 6; have x7 := D.out.cells 7
  simp only [List.getElem?_toArray, List.getElem?_cons_zero, List.getElem?_cons_succ] at x0 x1 x2 x3 x4 x5 x6 x7
  have r9 := D.out.1.heap HR4.out (by simp; omega)
  have sE := S4.out.trans D.out.1 (fun y hy h9 => by simp at hy; omega)
  generalize hV : v10.setCell ⟨w4.heap.size, 7, none⟩ (.string b) = v11 at *
  have R9 := Lib.hid r9; have SE := Lib.hid sE
  have hX9 : w.heap.size < w4.heap.size := by omega
  clear r9 sE D hV
  have hval : secA u = #[.int .i64 (a0 : Nat), .bool ((a2 : Int) == 1), .int .i64 (a4 : Nat), .int .i64 (a6 : Nat), .bool ((a7 : Int) == 1), .int .i64 (a8 : Nat), .int .i64 (a9 : Nat), .string b] := by
    unfold secA bodyS
    rw [← HN8.out, HBB.out, A0.out, A2.out, A4.out, A6.out, A7.out, A8.out, A9.out, beq_oneN, beq_oneN]
  have hsok : secOk u = (decide (a5 = 3) && decide (a8 ≤ a9)) := by unfold secOk; rw [A5.out, A8.out, A9.out]
  have HVAL := Lib.hid hval; have HSOK := Lib.hid hsok
  clear hval hsok
  by_cases h5 : a5 = 3
  · have h5i : ((a5 : Int) == 3) = true := by rw [beq_threeN]; simpa using h5
    by_cases h8 : a8 ≤ a9
    · have hck := fun W => scheck_ok (a0 : Int) ((a2 : Int) == 1) (a4 : Int) (a6 : Int) ((a7 : Int) == 1) (a8 : Int) (a9 : Int) b W ⟨by omega, by omega, by omega, by omega, by omega, by omega, by omega, by omega, by omega, hbz⟩
      have HCK := Lib.hid hck
      have hq : secOk u = true := by rw [HSOK.out]; simp [h5, h8]
      have hzv : zv = secA u := by rw [HZV.out, if_pos hq]
      have hze : ze = 0 := by rw [HZE.out, if_pos hq]
      subst hzv hze
      clear hq hck h8
      go_wp2_with fail
      (with_reducible refine (HCK.out _).mono ?_)
      rintro e v12 ⟨rfl, s12⟩
      have y0 := s12.cell x0 (by simp); have y1 := s12.cell x1 (by simp); have y2 := s12.cell x2 (by simp); have y3 := s12.cell x3 (by simp); have y4 := s12.cell x4 (by simp); have y5 := s12.cell x5 (by simp); have y6 := s12.cell x6 (by simp); have y7 := s12.cell x7 (by simp)
      have hr12 := s12.heap R9.out (by simp)
      have S12 := Lib.hid (SE.out.trans_nil s12)
      obtain ⟨r0, r1, r2, r3, r4, r5, r6, r7, rf⟩ := sec_cells hr12
      have hch := sec_chain hr12 rfl S12.out (Nat.le_refl _) (.int .i64 (a0 : Nat)) (.bool ((a2 : Int) == 1)) (.int .i64 (a4 : Nat)) (.int .i64 (a6 : Nat)) (.bool ((a7 : Int) == 1)) (.int .i64 (a8 : Nat)) (.int .i64 (a9 : Nat)) (.string b)
      clear s12 x0 x1 x2 x3 x4 x5 x6 x7 hr12
      go_wp2_with fail
      clear r0 r1 r2 r3 r4 r5 r6 r7 rf y0 y1 y2 y3 y4 y5 y6 y7
      obtain ⟨hc1, hc2⟩ := hch
      obtain ⟨k0, k1, k2, k3, k4, k5, k6, k7, _⟩ := sec_cells hc1
      refine bodyPost_ret (v := .tuple #[.agg (secA u), .int .i64 0]) ?_ rfl ⟨rfl, hc2⟩
      rw [HVAL.out]
      simp [results, Tryz.results94, go_sem, k0, k1, k2, k3, k4, k5, k6, k7]
    · have hck := fun W => scheck_num (a0 : Int) ((a2 : Int) == 1) (a4 : Int) (a6 : Int) ((a7 : Int) == 1) (a8 : Int) (a9 : Int) b W (by omega) (by omega) (by omega) (by omega) (by omega) (by omega) (by omega) (by omega) (by omega) (by omega)
      have HCK := Lib.hid hck
      have hq : secOk u = false := by rw [HSOK.out]; simp [h5]; omega
      have hzv : zv = secZ := by rw [HZV.out, if_neg (by rw [hq]; decide)]
      have hze : ze = 12 := by rw [HZE.out, if_neg (by rw [hq]; decide)]
      subst hzv hze
      clear hq hck h8
      go_wp2_with fail
      (with_reducible refine (HCK.out _).mono ?_)
      rintro e v12 ⟨rfl, s12⟩
      have hr12 := s12.heap R9.out (by simp)
      have S12 := Lib.hid (SE.out.trans_nil s12)
      obtain ⟨r0, r1, r2, r3, r4, r5, r6, r7, rf⟩ := sec_cells hr12
      have hch := sec_chain hr12 rfl S12.out (Nat.le_refl _) (.int .i64 0) (.bool false) (.int .i64 0) (.int .i64 0) (.bool false) (.int .i64 0) (.int .i64 0) (.string ⟨#[]⟩)
      clear s12 x0 x1 x2 x3 x4 x5 x6 x7 hr12
      go_wp2_with fail
      clear r0 r1 r2 r3 r4 r5 r6 r7 rf
      obtain ⟨hc1, hc2⟩ := hch
      obtain ⟨k0, k1, k2, k3, k4, k5, k6, k7, _⟩ := sec_cells hc1
      refine bodyPost_ret (v := .tuple #[.agg secZ, .int .i64 12]) ?_ rfl ⟨rfl, hc2⟩
      simp [results, Tryz.results94, go_sem, k0, k1, k2, k3, k4, k5, k6, k7, secZ]
  · have h5i : ((a5 : Int) == 3) = false := by rw [beq_threeN]; simpa using h5
    have hq : secOk u = false := by rw [HSOK.out]; simp [h5]
    have hzv : zv = secZ := by rw [HZV.out, if_neg (by rw [hq]; decide)]
    have hze : ze = 12 := by rw [HZE.out, if_neg (by rw [hq]; decide)]
    subst hzv hze
    have hr12 := R9.out
    obtain ⟨r0, r1, r2, r3, r4, r5, r6, r7, rf⟩ := sec_cells hr12
    have hch := sec_chain hr12 rfl SE.out (Nat.le_refl _) (.int .i64 0) (.bool false) (.int .i64 0) (.int .i64 0) (.bool false) (.int .i64 0) (.int .i64 0) (.string ⟨#[]⟩)
    clear hq hr12 x0 x1 x2 x3 x4 x5 x6 x7
    go_wp2_with fail
    clear r0 r1 r2 r3 r4 r5 r6 r7 rf
    obtain ⟨hc1, hc2⟩ := hch
    obtain ⟨k0, k1, k2, k3, k4, k5, k6, k7, _⟩ := sec_cells hc1
    refine bodyPost_ret (v := .tuple #[.agg secZ, .int .i64 12]) ?_ rfl ⟨rfl, hc2⟩
    simp [results, Tryz.results94, go_sem, k0, k1, k2, k3, k4, k5, k6, k7, secZ]
theorem sdecode_fn (t : ByteArray) (w : World) (hs : t.size < 1099511627776) : Calls Tryz.prog 94 #[.string t] w (Ret (.tuple #[.agg (decA t), .int .i64 (decE t)]) w) := by
  by_cases he : earlyE t = 0
  · have h := sdecode_late t w hs he
    have e1 : decE t = if secOk (openS t) = true then 0 else 12 := by
      unfold earlyE at he
      unfold decE
      by_cases h1 : needE t = 0
      · rw [if_neg (fun h => h h1)] at he ⊢
        by_cases h2 : t.size < needN t
        · rw [if_pos h2] at he; cases he
        · rw [if_neg h2] at he ⊢
          by_cases h3 : needN t < t.size
          · rw [if_pos h3] at he; cases he
          · rw [if_neg h3] at he ⊢; rw [if_neg (fun h => h he)]
      · rw [if_pos h1] at he; exact absurd he h1
    unfold decA
    rw [e1]
    by_cases hq : secOk (openS t) = true
    · rw [if_pos hq, if_pos hq] at h; rw [if_pos hq, if_pos rfl]; exact h
    · rw [if_neg hq, if_neg hq] at h; rw [if_neg hq, if_neg (by decide)]; exact h
  · have h := sdecode_early t w hs he
    have e1 : decE t = earlyE t := by
      by_cases h1 : needE t = 0
      · by_cases h2 : t.size < needN t
        · unfold decE earlyE; simp [h1, h2]
        · by_cases h3 : needN t < t.size
          · unfold decE earlyE; simp [h1, h2, h3]
          · have h4 : openE t ≠ 0 := fun h4 => he (by unfold earlyE; simp [h1, h2, h3, h4])
            unfold decE earlyE; simp [h1, h2, h3, h4]
      · unfold decE earlyE; simp [h1]
    unfold decA
    rw [e1, if_neg he]
    exact h
end Go.Proofs.YtpkpfebhdgbgbaaGreatDoor.S
