/- The first program, stream or descriptor of a key: the library's IndexFunc at the three, and the three Finds. Conditions: there is one; the rows are no more than 1000. -/
import Derived.Test.YtpkpfebhdgbgbaaGreatDoorTSTw
namespace Go.Proofs.YtpkpfebhdgbgbaaGreatDoor.D
open Go.RowKit
set_option linter.unusedSimpArgs false
set_option linter.unusedVariables false

/-- The value reads as descriptors: a tag, and bytes. -/
def DescV (w : World) (v : Value) (ps : List (Int × ByteArray)) : Prop := ∃ ad c, v = .slice ad ps.length c ∧ ps.length ≤ c ∧ ∀ (k : Nat) (h : k < ps.length), ∃ a : Addr, ad = some a ∧ a.spot = none ∧
  w.cell? ⟨a.block, a.off + k * 2, none⟩ = some (.int .i64 ps[k].1) ∧ w.cell? ⟨a.block, a.off + k * 2 + 1, none⟩ = some (.string ps[k].2)
theorem DescV.same {A C : World} {v : Value} {l : List (Int × ByteArray)} (h : DescV A v l) (hs : Same [] A C) : DescV C v l := by
  obtain ⟨ad, c, rfl, h1, h3⟩ := h
  exact ⟨ad, c, rfl, h1, fun i hi => by obtain ⟨a, ha, hsp, k0, k1⟩ := h3 i hi; exact ⟨a, ha, hsp, hs.cell k0 (by simp), hs.cell k1 (by simp)⟩⟩
theorem keyp_no (x0 : Int) (x1 : Int) (key : Int) (q : Nat) (w : World) (hk : w.cell? ⟨q, 0, none⟩ = some (.int .i64 key)) (he : x0 ≠ key) :
    Calls Tryz.prog 54 #[.agg #[.int .i64 x0, .int .i64 x1], .pointer (some ⟨q, 0, none⟩)] w fun e w' => e = .returned (.bool false) ∧ w.alloc (.cells #[.int .i64 x0, .int .i64 x1] 47) = w' := by
  have hq : q < w.heap.size := World.block_lt_of_cell? w _ hk
  have hq2 : q ≠ w.heap.size := by omega
  have hd : (x0 == key) = false := by simp; omega
  clear he
  go_enter Tryz.func54, Tryz.ntmps54
  go_wp2_with fail
  go_ret
  exact ⟨rfl, rfl⟩
theorem keyp_yes (x0 : Int) (x1 : Int) (key : Int) (q : Nat) (w : World) (hk : w.cell? ⟨q, 0, none⟩ = some (.int .i64 key)) (he : x0 = key) :
    Calls Tryz.prog 54 #[.agg #[.int .i64 x0, .int .i64 x1], .pointer (some ⟨q, 0, none⟩)] w fun e w' => e = .returned (.bool true) ∧ w.alloc (.cells #[.int .i64 x0, .int .i64 x1] 47) = w' := by
  have hq : q < w.heap.size := World.block_lt_of_cell? w _ hk
  have hq2 : q ≠ w.heap.size := by omega
  have hd : (x0 == key) = true := by simp; omega
  clear he
  go_enter Tryz.func54, Tryz.ntmps54
  go_wp2_with fail
  go_ret
  exact ⟨rfl, rfl⟩
set_option maxHeartbeats 1000000 in
theorem idxp (g o c n q : Nat) (f0 : Nat → Int) (f1 : Nat → Int) (key : Int) (t : Nat) (w : World) (hk : w.cell? ⟨q, 0, none⟩ = some (.int .i64 key)) (hc : ∀ j, j < n → w.cell? ⟨g, o + j * 2, none⟩ = some (.int .i64 (f0 j)) ∧ w.cell? ⟨g, o + j * 2 + 1, none⟩ = some (.int .i64 (f1 j)))
    (ht : t < n) (hne : ∀ j, j < t → f0 j ≠ key) (heq : f0 t = key) (hn : n < 1099511627776) :
    Calls Tryz.prog 53 #[.slice (some ⟨g, o, none⟩) n c, .func (.func 54) #[] #[.pointer (some ⟨q, 0, none⟩)]] w (Ret (.int .i64 t) w) := by
  go_enter Tryz.func53, Tryz.ntmps53
  go_wp2_with fail
  go_loopw [8] (fun i wr => ∃ k : Nat, k ≤ t ∧ i = .int .i64 k ∧ Same [] w wr) (fun i _ => t + 1 - (intOf i).toNat)
  case atStart => exact ⟨0, Nat.zero_le _, rfl, Same.refl _ _⟩
  case round =>
    obtain ⟨k, hkt, rfl, hsm⟩ := hrel
    have hlt : k < n := by omega
    have hlt2 : (k : Int) < (n : Int) := by omega
    obtain ⟨c0, c1⟩ := hc k hlt
    replace c0 := hsm.cell c0 (by simp)
    replace c1 := hsm.cell c1 (by simp)
    have hk2 := hsm.cell hk (by simp)
    have HS := Lib.hid hsm; have HC := Lib.hid hc
    clear hc hsm
    by_cases he : k = t
    · subst he
      have HW := Lib.hid (keyp_yes (f0 k) (f1 k) key q wr hk2 heq)
      clear hne heq hk2 hk
      generalize hy : f0 k = y at *
      clear hy
      go_wp2_with (go_at_call 54; (with_reducible refine HW.out.mono ?_); rintro e w' ⟨rfl, rfl⟩)
      go_ret
      exact ⟨rfl, HS.out.alloc _⟩
    · have HW := Lib.hid (keyp_no (f0 k) (f1 k) key q wr hk2 (hne k (by omega)))
      have HN := Lib.hid hne
      clear hne heq hk2 hk
      go_wp2_with (go_at_call 54; (with_reducible refine HW.out.mono ?_); rintro e w' ⟨rfl, rfl⟩)
      go_roundw
      case rel => exact ⟨k + 1, by omega, by go_num, HS.out.alloc _⟩
      case measure => simp [intOf]; omega
theorem keys_no (x0 : Int) (x1 : Int) (x2 : ByteArray) (key : Int) (q : Nat) (w : World) (hk : w.cell? ⟨q, 0, none⟩ = some (.int .i64 key)) (he : x1 ≠ key) :
    Calls Tryz.prog 57 #[.agg #[.int .i64 x0, .int .i64 x1, .string x2], .pointer (some ⟨q, 0, none⟩)] w fun e w' => e = .returned (.bool false) ∧ w.alloc (.cells #[.int .i64 x0, .int .i64 x1, .string x2] 53) = w' := by
  have hq : q < w.heap.size := World.block_lt_of_cell? w _ hk
  have hq2 : q ≠ w.heap.size := by omega
  have hd : (x1 == key) = false := by simp; omega
  clear he
  go_enter Tryz.func57, Tryz.ntmps57
  go_wp2_with fail
  go_ret
  exact ⟨rfl, rfl⟩
theorem keys_yes (x0 : Int) (x1 : Int) (x2 : ByteArray) (key : Int) (q : Nat) (w : World) (hk : w.cell? ⟨q, 0, none⟩ = some (.int .i64 key)) (he : x1 = key) :
    Calls Tryz.prog 57 #[.agg #[.int .i64 x0, .int .i64 x1, .string x2], .pointer (some ⟨q, 0, none⟩)] w fun e w' => e = .returned (.bool true) ∧ w.alloc (.cells #[.int .i64 x0, .int .i64 x1, .string x2] 53) = w' := by
  have hq : q < w.heap.size := World.block_lt_of_cell? w _ hk
  have hq2 : q ≠ w.heap.size := by omega
  have hd : (x1 == key) = true := by simp; omega
  clear he
  go_enter Tryz.func57, Tryz.ntmps57
  go_wp2_with fail
  go_ret
  exact ⟨rfl, rfl⟩
set_option maxHeartbeats 1000000 in
theorem idxs (g o c n q : Nat) (f0 : Nat → Int) (f1 : Nat → Int) (f2 : Nat → ByteArray) (key : Int) (t : Nat) (w : World) (hk : w.cell? ⟨q, 0, none⟩ = some (.int .i64 key)) (hc : ∀ j, j < n → w.cell? ⟨g, o + j * 3, none⟩ = some (.int .i64 (f0 j)) ∧ w.cell? ⟨g, o + j * 3 + 1, none⟩ = some (.int .i64 (f1 j)) ∧ w.cell? ⟨g, o + j * 3 + 2, none⟩ = some (.string (f2 j)))
    (ht : t < n) (hne : ∀ j, j < t → f1 j ≠ key) (heq : f1 t = key) (hn : n < 1099511627776) :
    Calls Tryz.prog 56 #[.slice (some ⟨g, o, none⟩) n c, .func (.func 57) #[] #[.pointer (some ⟨q, 0, none⟩)]] w (Ret (.int .i64 t) w) := by
  go_enter Tryz.func56, Tryz.ntmps56
  go_wp2_with fail
  go_loopw [8] (fun i wr => ∃ k : Nat, k ≤ t ∧ i = .int .i64 k ∧ Same [] w wr) (fun i _ => t + 1 - (intOf i).toNat)
  case atStart => exact ⟨0, Nat.zero_le _, rfl, Same.refl _ _⟩
  case round =>
    obtain ⟨k, hkt, rfl, hsm⟩ := hrel
    have hlt : k < n := by omega
    have hlt2 : (k : Int) < (n : Int) := by omega
    obtain ⟨c0, c1, c2⟩ := hc k hlt
    replace c0 := hsm.cell c0 (by simp)
    replace c1 := hsm.cell c1 (by simp)
    replace c2 := hsm.cell c2 (by simp)
    have hk2 := hsm.cell hk (by simp)
    have HS := Lib.hid hsm; have HC := Lib.hid hc
    clear hc hsm
    by_cases he : k = t
    · subst he
      have HW := Lib.hid (keys_yes (f0 k) (f1 k) (f2 k) key q wr hk2 heq)
      clear hne heq hk2 hk
      generalize hy : f1 k = y at *
      clear hy
      go_wp2_with (go_at_call 57; (with_reducible refine HW.out.mono ?_); rintro e w' ⟨rfl, rfl⟩)
      go_ret
      exact ⟨rfl, HS.out.alloc _⟩
    · have HW := Lib.hid (keys_no (f0 k) (f1 k) (f2 k) key q wr hk2 (hne k (by omega)))
      have HN := Lib.hid hne
      clear hne heq hk2 hk
      go_wp2_with (go_at_call 57; (with_reducible refine HW.out.mono ?_); rintro e w' ⟨rfl, rfl⟩)
      go_roundw
      case rel => exact ⟨k + 1, by omega, by go_num, HS.out.alloc _⟩
      case measure => simp [intOf]; omega
theorem keyd_no (x0 : Int) (x1 : ByteArray) (key : Int) (q : Nat) (w : World) (hk : w.cell? ⟨q, 0, none⟩ = some (.int .i64 key)) (he : x0 ≠ key) :
    Calls Tryz.prog 59 #[.agg #[.int .i64 x0, .string x1], .pointer (some ⟨q, 0, none⟩)] w fun e w' => e = .returned (.bool false) ∧ w.alloc (.cells #[.int .i64 x0, .string x1] 39) = w' := by
  have hq : q < w.heap.size := World.block_lt_of_cell? w _ hk
  have hq2 : q ≠ w.heap.size := by omega
  have hd : (x0 == key) = false := by simp; omega
  clear he
  go_enter Tryz.func59, Tryz.ntmps59
  go_wp2_with fail
  go_ret
  exact ⟨rfl, rfl⟩
theorem keyd_yes (x0 : Int) (x1 : ByteArray) (key : Int) (q : Nat) (w : World) (hk : w.cell? ⟨q, 0, none⟩ = some (.int .i64 key)) (he : x0 = key) :
    Calls Tryz.prog 59 #[.agg #[.int .i64 x0, .string x1], .pointer (some ⟨q, 0, none⟩)] w fun e w' => e = .returned (.bool true) ∧ w.alloc (.cells #[.int .i64 x0, .string x1] 39) = w' := by
  have hq : q < w.heap.size := World.block_lt_of_cell? w _ hk
  have hq2 : q ≠ w.heap.size := by omega
  have hd : (x0 == key) = true := by simp; omega
  clear he
  go_enter Tryz.func59, Tryz.ntmps59
  go_wp2_with fail
  go_ret
  exact ⟨rfl, rfl⟩
set_option maxHeartbeats 1000000 in
theorem idxd (g o c n q : Nat) (f0 : Nat → Int) (f1 : Nat → ByteArray) (key : Int) (t : Nat) (w : World) (hk : w.cell? ⟨q, 0, none⟩ = some (.int .i64 key)) (hc : ∀ j, j < n → w.cell? ⟨g, o + j * 2, none⟩ = some (.int .i64 (f0 j)) ∧ w.cell? ⟨g, o + j * 2 + 1, none⟩ = some (.string (f1 j)))
    (ht : t < n) (hne : ∀ j, j < t → f0 j ≠ key) (heq : f0 t = key) (hn : n < 1099511627776) :
    Calls Tryz.prog 58 #[.slice (some ⟨g, o, none⟩) n c, .func (.func 59) #[] #[.pointer (some ⟨q, 0, none⟩)]] w (Ret (.int .i64 t) w) := by
  go_enter Tryz.func58, Tryz.ntmps58
  go_wp2_with fail
  go_loopw [8] (fun i wr => ∃ k : Nat, k ≤ t ∧ i = .int .i64 k ∧ Same [] w wr) (fun i _ => t + 1 - (intOf i).toNat)
  case atStart => exact ⟨0, Nat.zero_le _, rfl, Same.refl _ _⟩
  case round =>
    obtain ⟨k, hkt, rfl, hsm⟩ := hrel
    have hlt : k < n := by omega
    have hlt2 : (k : Int) < (n : Int) := by omega
    obtain ⟨c0, c1⟩ := hc k hlt
    replace c0 := hsm.cell c0 (by simp)
    replace c1 := hsm.cell c1 (by simp)
    have hk2 := hsm.cell hk (by simp)
    have HS := Lib.hid hsm; have HC := Lib.hid hc
    clear hc hsm
    by_cases he : k = t
    · subst he
      have HW := Lib.hid (keyd_yes (f0 k) (f1 k) key q wr hk2 heq)
      clear hne heq hk2 hk
      generalize hy : f0 k = y at *
      clear hy
      go_wp2_with (go_at_call 59; (with_reducible refine HW.out.mono ?_); rintro e w' ⟨rfl, rfl⟩)
      go_ret
      exact ⟨rfl, HS.out.alloc _⟩
    · have HW := Lib.hid (keyd_no (f0 k) (f1 k) key q wr hk2 (hne k (by omega)))
      have HN := Lib.hid hne
      clear hne heq hk2 hk
      go_wp2_with (go_at_call 59; (with_reducible refine HW.out.mono ?_); rintro e w' ⟨rfl, rfl⟩)
      go_roundw
      case rel => exact ⟨k + 1, by omega, by go_num, HS.out.alloc _⟩
      case measure => simp [intOf]; omega
/-- A program's Pid. -/
theorem patFind (a b : Int) (ps : List (Int × Int)) (v : Value) (w : World) (hp : S.ProgsV w v ps) (hn : ps.length ≤ 1000) (key : Int) (t : Nat) (x : Int × Int) (ht : ps[t]? = some x) (hne : ∀ j y, j < t → ps[j]? = some y → y.1 ≠ key) (heq : x.1 = key) :
    Calls Tryz.prog 18 #[.agg #[.int .i64 a, .int .i64 b, v], .int .i64 key] w (Ret (.tuple #[.int .i64 x.2, .int .i64 0]) w) := by
  obtain ⟨htl, hx⟩ := List.getElem?_eq_some_iff.1 ht
  obtain ⟨ad, c, rfl, hlc, hc⟩ := hp
  obtain ⟨A, rfl, hsp, h0, h1⟩ := hc t htl
  obtain ⟨g, o, sp⟩ := A
  simp only at hsp
  subst hsp
  have hcc : ∀ j, j < ps.length → w.cell? ⟨g, o + j * 2, none⟩ = some (.int .i64 ((ps.getD j (0, 0)).1)) ∧ w.cell? ⟨g, o + j * 2 + 1, none⟩ = some (.int .i64 ((ps.getD j (0, 0)).2)) := fun j hj => by
    obtain ⟨B, hB, _, k0, k1⟩ := hc j hj
    cases hB
    rw [List.getD_eq_getElem?_getD, List.getElem?_eq_getElem hj]
    exact ⟨k0, k1⟩
  have h1 : w.cell? ⟨g, o + t * 2 + 1, none⟩ = some (.int .i64 x.2) := by rw [hx] at h1; exact h1
  clear hc h0
  have S0 := ((Same.refl [] w).alloc (.cells #[.int .i64 a, .int .i64 b, .slice (some ⟨g, o, none⟩) ps.length c] 50)).alloc (.cells #[.int .i64 key] 3)
  have HI := Lib.hid (idxp g o c ps.length (w.heap.size + 1) (fun j => (ps.getD j (0, 0)).1) (fun j => (ps.getD j (0, 0)).2) key t
    ((w.alloc (.cells #[.int .i64 a, .int .i64 b, .slice (some ⟨g, o, none⟩) ps.length c] 50)).alloc (.cells #[.int .i64 key] 3))
    (by have h := cell_of (heap_alloc_new (w.alloc (.cells #[.int .i64 a, .int .i64 b, .slice (some ⟨g, o, none⟩) ps.length c] 50)) (.cells #[.int .i64 key] 3)) 0
        rw [World.size_alloc] at h; exact h)
    (fun j hj => ⟨S0.cell (hcc j hj).1 (by simp), S0.cell (hcc j hj).2 (by simp)⟩) htl
    (fun j hj => by
      have hj2 : j < ps.length := by omega
      have h := hne j ps[j] hj (List.getElem?_eq_getElem hj2)
      show (ps.getD j (0, 0)).1 ≠ key
      rw [List.getD_eq_getElem?_getD, List.getElem?_eq_getElem hj2]; exact h)
    (by show (ps.getD t (0, 0)).1 = key; rw [List.getD_eq_getElem?_getD, ht]; exact heq) (by omega))
  have HT := Lib.hid (heap_alloc_new w (.cells #[.int .i64 a, .int .i64 b, .slice (some ⟨g, o, none⟩) ps.length c] 50))
  have HS0 := Lib.hid S0; have H1 := Lib.hid h1
  have htl2 : (t : Int) < (ps.length : Int) := by omega
  have ht0 : ¬ (t : Int) < 0 := by omega
  clear hcc S0 h1 ht hne heq hx
  go_enter Tryz.func18, Tryz.ntmps18
  go_wp2_with fail
  (with_reducible refine HI.out.mono ?_)
  rintro e w2 ⟨rfl, s2⟩
  have hb := s2.heap (((Same.refl [] _).alloc _).heap HT.out (by simp)) (by simp)
  have k2 := cell_of hb 2
  simp only [List.getElem?_toArray, List.getElem?_cons_zero, List.getElem?_cons_succ] at k2
  have hbl := heap_lt hb
  have k1 := (HS0.out.trans_nil s2).cell H1.out (by simp)
  have HS2 := Lib.hid s2
  clear hb s2
  go_wp2_with fail
  go_ret2
  exact ⟨rfl, HS0.out.trans_nil HS2.out⟩
/-- A stream of a Pid. -/
theorem pmtFind (a b d : Int) (i : ByteArray) (ps : List S.StrT) (v : Value) (w : World) (hp : S.StrsV w v ps) (hn : ps.length ≤ 1000) (key : Int) (t : Nat) (x : S.StrT) (ht : ps[t]? = some x) (hne : ∀ j y, j < t → ps[j]? = some y → y.pid ≠ key) (heq : x.pid = key) :
    Calls Tryz.prog 20 #[.agg #[.int .i64 a, .int .i64 b, .int .i64 d, .string i, v], .int .i64 key] w (Ret (.tuple #[.agg #[.int .i64 x.kind, .int .i64 x.pid, .string x.info], .int .i64 0]) w) := by
  obtain ⟨htl, hx⟩ := List.getElem?_eq_some_iff.1 ht
  obtain ⟨ad, c, rfl, hlc, hc⟩ := hp
  obtain ⟨A, rfl, hsp, h0, h1, h2⟩ := hc t htl
  obtain ⟨g, o, sp⟩ := A
  simp only at hsp
  subst hsp
  have hcc : ∀ j, j < ps.length → w.cell? ⟨g, o + j * 3, none⟩ = some (.int .i64 ((ps.getD j ⟨0, 0, i⟩).kind)) ∧ w.cell? ⟨g, o + j * 3 + 1, none⟩ = some (.int .i64 ((ps.getD j ⟨0, 0, i⟩).pid)) ∧ w.cell? ⟨g, o + j * 3 + 2, none⟩ = some (.string ((ps.getD j ⟨0, 0, i⟩).info)) := fun j hj => by
    obtain ⟨B, hB, _, k0, k1, k2⟩ := hc j hj
    cases hB
    rw [List.getD_eq_getElem?_getD, List.getElem?_eq_getElem hj]
    exact ⟨k0, k1, k2⟩
  have h0 : w.cell? ⟨g, o + t * 3, none⟩ = some (.int .i64 x.kind) := by rw [hx] at h0; exact h0
  have h1 : w.cell? ⟨g, o + t * 3 + 1, none⟩ = some (.int .i64 x.pid) := by rw [hx] at h1; exact h1
  have h2 : w.cell? ⟨g, o + t * 3 + 2, none⟩ = some (.string x.info) := by rw [hx] at h2; exact h2
  clear hc
  obtain ⟨xk, xp, xi⟩ := x
  simp only at h0 h1 h2 heq
  have W0 : ∃ W, W = ((w.alloc (.cells #[.int .i64 a, .int .i64 b, .int .i64 d, .string i, .slice (some ⟨g, o, none⟩) ps.length c] 56)).alloc (.cells #[.int .i64 key] 3)).alloc (.cells #[.int .i64 0, .int .i64 0, .string ⟨#[]⟩] 53) := ⟨_, rfl⟩
  have S0 := (((Same.refl [] w).alloc (.cells #[.int .i64 a, .int .i64 b, .int .i64 d, .string i, .slice (some ⟨g, o, none⟩) ps.length c] 56)).alloc (.cells #[.int .i64 key] 3)).alloc (.cells #[.int .i64 0, .int .i64 0, .string ⟨#[]⟩] 53)
  have HI := Lib.hid (idxs g o c ps.length (w.heap.size + 1) (fun j => (ps.getD j ⟨0, 0, i⟩).kind) (fun j => (ps.getD j ⟨0, 0, i⟩).pid) (fun j => (ps.getD j ⟨0, 0, i⟩).info) key t
    (((w.alloc (.cells #[.int .i64 a, .int .i64 b, .int .i64 d, .string i, .slice (some ⟨g, o, none⟩) ps.length c] 56)).alloc (.cells #[.int .i64 key] 3)).alloc (.cells #[.int .i64 0, .int .i64 0, .string ⟨#[]⟩] 53))
    (by have h := cell_of (heap_alloc_new (w.alloc (.cells #[.int .i64 a, .int .i64 b, .int .i64 d, .string i, .slice (some ⟨g, o, none⟩) ps.length c] 56)) (.cells #[.int .i64 key] 3)) 0
        rw [World.size_alloc] at h; exact ((Same.refl [] _).alloc _).cell h (by simp))
    (fun j hj => ⟨S0.cell (hcc j hj).1 (by simp), S0.cell (hcc j hj).2.1 (by simp), S0.cell (hcc j hj).2.2 (by simp)⟩) htl
    (fun j hj => by
      have hj2 : j < ps.length := by omega
      have h := hne j ps[j] hj (List.getElem?_eq_getElem hj2)
      show (ps.getD j ⟨0, 0, i⟩).pid ≠ key
      rw [List.getD_eq_getElem?_getD, List.getElem?_eq_getElem hj2]; exact h)
    (by show (ps.getD t ⟨0, 0, i⟩).pid = key; rw [List.getD_eq_getElem?_getD, ht]; exact heq) (by omega))
  have HT := Lib.hid (heap_alloc_new w (.cells #[.int .i64 a, .int .i64 b, .int .i64 d, .string i, .slice (some ⟨g, o, none⟩) ps.length c] 56))
  have HR := Lib.hid (heap_alloc_new ((w.alloc (.cells #[.int .i64 a, .int .i64 b, .int .i64 d, .string i, .slice (some ⟨g, o, none⟩) ps.length c] 56)).alloc (.cells #[.int .i64 key] 3)) (.cells #[.int .i64 0, .int .i64 0, .string ⟨#[]⟩] 53))
  have HS0 := Lib.hid S0; have H0 := Lib.hid h0; have H1 := Lib.hid h1; have H2 := Lib.hid h2
  have htl2 : (t : Int) < (ps.length : Int) := by omega
  have ht0 : ¬ (t : Int) < 0 := by omega
  clear hcc S0 h0 h1 h2 ht hne heq hx W0
  go_enter Tryz.func20, Tryz.ntmps20
  go_wp2_with fail
  (with_reducible refine HI.out.mono ?_)
  rintro e w2 ⟨rfl, s2⟩
  have hb := s2.heap (((Same.refl [] _).alloc _).heap (((Same.refl [] _).alloc _).heap HT.out (by simp)) (by simp)) (by simp)
  have k4 := cell_of hb 4
  simp only [List.getElem?_toArray, List.getElem?_cons_zero, List.getElem?_cons_succ] at k4
  have hbl := heap_lt hb
  have hr := s2.heap HR.out (by simp)
  rw [World.size_alloc, World.size_alloc] at hr
  have r0 := cell_of hr 0; have r1 := cell_of hr 1; have r2 := cell_of hr 2
  simp only [List.getElem?_toArray, List.getElem?_cons_zero, List.getElem?_cons_succ] at r0 r1 r2
  have f0 := free_of hr 0; have f1 := free_of hr 1; have f2 := free_of hr 2
  have hrl := heap_lt hr
  have S2 := HS0.out.trans_nil s2
  have k0 := S2.cell H0.out (by simp); have k1 := S2.cell H1.out (by simp); have k2 := S2.cell H2.out (by simp)
  have hgl : g < w.heap.size := World.block_lt_of_cell? w _ H0.out
  have hg1 : g ≠ w.heap.size + 1 + 1 := by omega
  have HF := Lib.hid (show (((w2.setCell ⟨w.heap.size + 1 + 1, 0, none⟩ (.int .i64 xk)).setCell ⟨w.heap.size + 1 + 1, 1, none⟩ (.int .i64 xp)).setCell ⟨w.heap.size + 1 + 1, 2, none⟩ (.string xi)).heap[w.heap.size + 1 + 1]? = some (.cells #[.int .i64 xk, .int .i64 xp, .string xi] 53 (0, 0)) from set_same (set_same (set_same hr _) _) _)
  have HS3 := Lib.hid (((S2.setCell (by simp; omega) _).setCell (by simp; omega) _).setCell (by simp; omega) _ : Same [] w (((w2.setCell ⟨w.heap.size + 1 + 1, 0, none⟩ (.int .i64 xk)).setCell ⟨w.heap.size + 1 + 1, 1, none⟩ (.int .i64 xp)).setCell ⟨w.heap.size + 1 + 1, 2, none⟩ (.string xi)))
  clear hb hr s2 S2
  go_wp2_with fail
  clear r0 r1 r2 f0 f1 f2
  have q0 := cell_of HF.out 0; have q1 := cell_of HF.out 1; have q2 := cell_of HF.out 2
  simp only [List.getElem?_toArray, List.getElem?_cons_zero, List.getElem?_cons_succ] at q0 q1 q2
  refine bodyPost_ret (v := .tuple #[.agg #[.int .i64 xk, .int .i64 xp, .string xi], .int .i64 0]) ?_ rfl ⟨rfl, HS3.out⟩
  simp [results, Tryz.results20, go_sem, q0, q1, q2]
/-- A descriptor of a tag. -/
theorem descrFind (ps : List (Int × ByteArray)) (v : Value) (w : World) (hp : DescV w v ps) (hn : ps.length ≤ 1000) (key : Int) (t : Nat) (x : Int × ByteArray) (ht : ps[t]? = some x) (hne : ∀ j y, j < t → ps[j]? = some y → y.1 ≠ key) (heq : x.1 = key) :
    Calls Tryz.prog 22 #[v, .int .i64 key] w (Ret (.tuple #[.agg #[.int .i64 x.1, .string x.2], .int .i64 0]) w) := by
  obtain ⟨htl, hx⟩ := List.getElem?_eq_some_iff.1 ht
  obtain ⟨ad, c, rfl, hlc, hc⟩ := hp
  obtain ⟨A, rfl, hsp, h0, h1⟩ := hc t htl
  obtain ⟨g, o, sp⟩ := A
  simp only at hsp
  subst hsp
  have hcc : ∀ j, j < ps.length → w.cell? ⟨g, o + j * 2, none⟩ = some (.int .i64 ((ps.getD j (0, ⟨#[]⟩)).1)) ∧ w.cell? ⟨g, o + j * 2 + 1, none⟩ = some (.string ((ps.getD j (0, ⟨#[]⟩)).2)) := fun j hj => by
    obtain ⟨B, hB, _, k0, k1⟩ := hc j hj
    cases hB
    rw [List.getD_eq_getElem?_getD, List.getElem?_eq_getElem hj]
    exact ⟨k0, k1⟩
  have h0 : w.cell? ⟨g, o + t * 2, none⟩ = some (.int .i64 x.1) := by rw [hx] at h0; exact h0
  have h1 : w.cell? ⟨g, o + t * 2 + 1, none⟩ = some (.string x.2) := by rw [hx] at h1; exact h1
  clear hc
  obtain ⟨xt, xb⟩ := x
  simp only at h0 h1 heq
  have S0 := ((Same.refl [] w).alloc (.cells #[.int .i64 key] 3)).alloc (.cells #[.int .i64 0, .string ⟨#[]⟩] 39)
  have HI := Lib.hid (idxd g o c ps.length w.heap.size (fun j => (ps.getD j (0, ⟨#[]⟩)).1) (fun j => (ps.getD j (0, ⟨#[]⟩)).2) key t
    ((w.alloc (.cells #[.int .i64 key] 3)).alloc (.cells #[.int .i64 0, .string ⟨#[]⟩] 39))
    (((Same.refl [] _).alloc _).cell ((cell_of (heap_alloc_new w (.cells #[.int .i64 key] 3)) 0).trans rfl) (by simp))
    (fun j hj => ⟨S0.cell (hcc j hj).1 (by simp), S0.cell (hcc j hj).2 (by simp)⟩) htl
    (fun j hj => by
      have hj2 : j < ps.length := by omega
      have h := hne j ps[j] hj (List.getElem?_eq_getElem hj2)
      show (ps.getD j (0, ⟨#[]⟩)).1 ≠ key
      rw [List.getD_eq_getElem?_getD, List.getElem?_eq_getElem hj2]; exact h)
    (by show (ps.getD t (0, ⟨#[]⟩)).1 = key; rw [List.getD_eq_getElem?_getD, ht]; exact heq) (by omega))
  have HR := Lib.hid (heap_alloc_new (w.alloc (.cells #[.int .i64 key] 3)) (.cells #[.int .i64 0, .string ⟨#[]⟩] 39))
  have HS0 := Lib.hid S0; have H0 := Lib.hid h0; have H1 := Lib.hid h1
  have htl2 : (t : Int) < (ps.length : Int) := by omega
  have ht0 : ¬ (t : Int) < 0 := by omega
  clear hcc S0 h0 h1 ht hne heq hx
  go_enter Tryz.func22, Tryz.ntmps22
  go_wp2_with fail
  (with_reducible refine HI.out.mono ?_)
  rintro e w2 ⟨rfl, s2⟩
  have hr := s2.heap HR.out (by simp)
  rw [World.size_alloc] at hr
  have r0 := cell_of hr 0; have r1 := cell_of hr 1
  simp only [List.getElem?_toArray, List.getElem?_cons_zero, List.getElem?_cons_succ] at r0 r1
  have f0 := free_of hr 0; have f1 := free_of hr 1
  have hrl := heap_lt hr
  have S2 := HS0.out.trans_nil s2
  have k0 := S2.cell H0.out (by simp); have k1 := S2.cell H1.out (by simp)
  have hgl : g < w.heap.size := World.block_lt_of_cell? w _ H0.out
  have hg1 : g ≠ w.heap.size + 1 := by omega
  have HF := Lib.hid (show ((w2.setCell ⟨w.heap.size + 1, 0, none⟩ (.int .i64 xt)).setCell ⟨w.heap.size + 1, 1, none⟩ (.string xb)).heap[w.heap.size + 1]? = some (.cells #[.int .i64 xt, .string xb] 39 (0, 0)) from set_same (set_same hr _) _)
  have HS3 := Lib.hid ((S2.setCell (by simp) _).setCell (by simp) _ : Same [] w ((w2.setCell ⟨w.heap.size + 1, 0, none⟩ (.int .i64 xt)).setCell ⟨w.heap.size + 1, 1, none⟩ (.string xb)))
  clear hr s2 S2
  go_wp2_with fail
  clear r0 r1 f0 f1
  have q0 := cell_of HF.out 0; have q1 := cell_of HF.out 1
  simp only [List.getElem?_toArray, List.getElem?_cons_zero, List.getElem?_cons_succ] at q0 q1
  refine bodyPost_ret (v := .tuple #[.agg #[.int .i64 xt, .string xb], .int .i64 0]) ?_ rfl ⟨rfl, HS3.out⟩
  simp [results, Tryz.results22, go_sem, q0, q1]
end Go.Proofs.YtpkpfebhdgbgbaaGreatDoor.D
