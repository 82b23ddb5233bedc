/- slices.Contains at slices of numbers; rows of bytes of which one is another. No condition. Plain: a frame's bytes, by rows and columns. No condition. Plain: columns and rows of a frame, byte by byte, and all columns one behind the other. No condition. A frame in the heap. No condition. -/
import Derived.Test.YtpkpfebhdgbgbaaGreatDoorTFRs6
import Derived.Deep.RegionLaw
import Derived.Test.YtpkpfebhdgbgbaaGreatDoorRs1
namespace Go.Proofs.YtpkpfebhdgbgbaaGreatDoor.K
open Go.RowKit
set_option linter.unusedSimpArgs false
set_option linter.unusedVariables false

def NumsAt (w : World) (v : Value) (xs : List Int) : Prop :=
  ∃ ad c, v = .slice ad xs.length c ∧ xs.length ≤ c ∧ c ≤ maxLen ∧ ∀ (i : Nat) (h : i < xs.length), ∃ a : Addr, ad = some a ∧ a.spot = none ∧ w.cell? ⟨a.block, a.off + i, none⟩ = some (.int .i64 xs[i])
theorem rowF_set {w : World} {v : Value} {g : Nat} {l : List UInt8} (h : RowF w v g (u8l l)) (i : Nat) (hi : i < l.length) (x : UInt8) : RowF (w.setCell ⟨g, i, none⟩ (.int .u8 (x.toNat : Int))) v g (u8l (l.set i x)) := by
  obtain ⟨cap, rfl, h1, h2, h3, h4⟩ := h
  have hcell : ∀ j, (w.setCell ⟨g, i, none⟩ (.int .u8 (x.toNat : Int))).cell? ⟨g, j, none⟩ = if j = i then some (.int .u8 (x.toNat : Int)) else w.cell? ⟨g, j, none⟩ := fun j => by
    rw [u8l_length] at h1
    obtain ⟨u, hu⟩ := Option.isSome_iff_exists.1 (h4 i (by omega)).1
    obtain ⟨cells, t, fz, hb⟩ : ∃ cells t fz, w.heap[g]? = some (.cells cells t fz) := by
      unfold World.cell? at hu
      simp only at hu
      split at hu
      · rename_i c t f hh; exact ⟨_, _, _, hh⟩
      · cases hu
    rw [cell_of (set_same hb _), cell_of hb]
    by_cases e : j = i
    · subst e
      rw [if_pos rfl, Array.getElem?_setIfInBounds_self_of_lt]
      rw [cell_of hb] at hu
      exact (Array.getElem?_eq_some_iff.1 hu).1
    · rw [if_neg e, Array.getElem?_setIfInBounds_ne (by omega)]
  refine ⟨cap, by simp [u8l], by simpa [u8l] using h1, h2, fun j u hj => ?_, fun j hj => ?_⟩
  · rw [hcell]
    have hjl : j < l.length := by have := (List.getElem?_eq_some_iff.1 hj).1; simpa [u8l] using this
    by_cases e : j = i
    · subst e
      rw [if_pos rfl, ← hj]
      simp [u8l, u8v, hjl]
    · rw [if_neg e]
      refine h3 j u ?_
      rw [← hj]
      simp only [u8l, List.getElem?_map]
      rw [List.getElem?_set_ne (by omega)]
  · constructor
    · rw [hcell]; split
      · rfl
      · exact (h4 j hj).1
    · rw [World.frozen?_setCell]; exact (h4 j hj).2
set_option maxRecDepth 100000 in
theorem index_any (xs : List Int) (v : Value) (n : Int) (w : World) (hr : NumsAt w v xs) : Calls Tryz.prog 89 #[v, .int .i64 n] w fun e w' => (∃ k : Int, e = .returned (.int .i64 k) ∧ (n ∈ xs → 0 ≤ k) ∧ (n ∉ xs → k = -1)) ∧ w = w' := by
  obtain ⟨ad, cp, rfl, hlc, hcm, hcell⟩ := hr
  have HCELL := Lib.hid hcell
  have hml : xs.length ≤ 9223372036854775807 := Nat.le_trans hlc (Nat.le_trans hcm (by unfold maxLen; decide))
  clear hcell
  go_enter Tryz.func89, Tryz.ntmps89
  go_wp2_with fail
  go_loopw [8] (fun i wr => ∃ k : Nat, k ≤ xs.length ∧ i = .int .i64 k ∧ n ∉ xs.take k ∧ w = wr) (fun i _ => xs.length - (intOf i).toNat)
  case atStart => exact ⟨0, Nat.zero_le _, rfl, by simp, rfl⟩
  case round =>
    obtain ⟨k, hk, rfl, hn, rfl⟩ := hrel
    have HN := Lib.hid hn
    clear hn
    by_cases h1 : k < xs.length
    · have h1i : (k : Int) < (xs.length : Int) := by omega
      obtain ⟨ad', rfl, hsp, c0⟩ := HCELL.out k h1
      obtain ⟨g, o, sp⟩ := ad'
      simp only at hsp c0
      subst hsp
      obtain ⟨x, hx⟩ : ∃ x, x = xs[k] := ⟨_, rfl⟩
      rw [← hx] at c0
      have HX := Lib.hid hx
      clear hx
      by_cases he : n = x
      · have hei : (n == x) = true := by rw [he]; simp
        have hm : n ∈ xs := by rw [he, HX.out]; exact List.getElem_mem h1
        have HM := Lib.hid hm
        clear he hm
        go_wp2_with fail
        go_ret
        exact ⟨⟨_, rfl, fun _ => by omega, fun h => absurd HM.out h⟩, rfl⟩
      · have hei : (n == x) = false := by simpa using he
        have HE := Lib.hid he
        clear he
        go_wp2_with fail
        go_roundw
        case rel => exact ⟨k + 1, by omega, by go_num, by rw [List.take_succ_eq_append_getElem h1, List.mem_append, List.mem_singleton, ← HX.out]; exact fun h => h.elim HN.out HE.out, by first | rfl | trivial⟩
        case measure => simp [intOf]; omega
    · obtain rfl : k = xs.length := by omega
      have h1i : ¬ (xs.length : Int) < (xs.length : Int) := by omega
      clear h1
      go_wp2_with fail
      go_ret
      exact ⟨⟨_, rfl, fun h => absurd h (by have := HN.out; rwa [List.take_length] at this), fun _ => rfl⟩, rfl⟩
theorem contains_any (xs : List Int) (v : Value) (n : Int) (q : Bool) (w : World) (hr : NumsAt w v xs) (hq : decide (n ∈ xs) = q) : Calls Tryz.prog 36 #[v, .int .i64 n] w fun e w' => e = .returned (.bool q) ∧ w = w' := by
  have HI := Lib.hid (index_any xs v n w hr)
  have HQ := Lib.hid hq
  obtain ⟨ad, cp, rfl, hlc, hcm, hcell⟩ := hr
  clear hq hcell
  go_enter Tryz.func36, Tryz.ntmps36
  go_wp2_with fail
  (with_reducible refine HI.out.mono ?_)
  rintro e w' ⟨⟨k, rfl, h1, h2⟩, rfl⟩
  cases q with
  | true =>
    have := h1 (of_decide_eq_true HQ.out)
    clear h1 h2
    go_wp2_with fail
    go_ret
    exact ⟨rfl, rfl⟩
  | false =>
    have hk := h2 (of_decide_eq_false HQ.out)
    subst hk
    clear h1 h2
    go_wp2_with fail
    go_ret
    exact ⟨rfl, rfl⟩
end Go.Proofs.YtpkpfebhdgbgbaaGreatDoor.K
namespace Go.Proofs.YtpkpfebhdgbgbaaGreatDoor.K
set_option linter.unusedSimpArgs false

/-- The byte of data at a row and a column. -/
def dat (rows : Nat) (X : List UInt8) (r c : Nat) : UInt8 := cf X (c * rows + r)
theorem place_iff {rows n r c : Nat} (hr : r < rows) : c * rows + r = n ↔ r = n % rows ∧ c = n / rows := by
  constructor
  · rintro rfl
    rw [Nat.add_comm, Nat.add_mul_mod_self_right, Nat.mod_eq_of_lt hr, Nat.add_mul_div_right _ _ (by omega), Nat.div_eq_of_lt hr, Nat.zero_add]
    exact ⟨rfl, rfl⟩
  · rintro ⟨rfl, rfl⟩
    rw [Nat.mul_comm]; exact Nat.div_add_mod n rows
theorem cf_snoc (X : List UInt8) (b : UInt8) (i : Nat) : cf (X ++ [b]) i = if i = X.length then b else cf X i := by
  unfold cf
  rw [List.getD_eq_getElem?_getD, List.getD_eq_getElem?_getD]
  by_cases h : i < X.length
  · rw [List.getElem?_append_left h, if_neg (by omega)]
  · by_cases h2 : i = X.length
    · subst h2; rw [if_pos rfl]; simp
    · rw [if_neg h2, List.getElem?_eq_none (by rw [List.length_append]; show X.length + 1 ≤ i; omega), List.getElem?_eq_none (by omega)]
theorem dat_snoc {rows : Nat} (X : List UInt8) (b : UInt8) {r c : Nat} (hr : r < rows) : dat rows (X ++ [b]) r c = if r = X.length % rows ∧ c = X.length / rows then b else dat rows X r c := by
  unfold dat
  rw [cf_snoc]
  by_cases h : c * rows + r = X.length
  · rw [if_pos h, if_pos ((place_iff hr).1 h)]
  · rw [if_neg h, if_neg (fun h2 => h ((place_iff hr).2 h2))]
theorem dat_nil (rows r c : Nat) : dat rows [] r c = 0 := rfl
/-- A row's data. -/
def rowD (rows : Nat) (X : List UInt8) (r : Nat) : List UInt8 := ofF 191 (fun c => dat rows X r c)
theorem rowD_length (rows : Nat) (X : List UInt8) (r : Nat) : (rowD rows X r).length = 191 := ofF_length _ _
/-- A column's data. -/
def colD (rows : Nat) (X : List UInt8) (n : Nat) : List UInt8 := ofF rows (fun r => dat rows X r n)
theorem colD_length (rows : Nat) (X : List UInt8) (n : Nat) : (colD rows X n).length = rows := ofF_length _ _
/-- A row's data and parity. -/
def rowW (rows : Nat) (X : List UInt8) (r : Nat) : List UInt8 := rowD rows X r ++ par (rowD rows X r)
theorem rowW_length (rows : Nat) (X : List UInt8) (r : Nat) : (rowW rows X r).length = 255 := by unfold rowW; rw [List.length_append, rowD_length, par_length]
theorem rowW_word (rows : Nat) (X : List UInt8) (r : Nat) : IsW (rowW rows X r) := word_is _ (rowD_length rows X r)
theorem cf_app (a b : List UInt8) (i : Nat) : cf (a ++ b) i = if i < a.length then cf a i else cf b (i - a.length) := by
  unfold cf
  rw [List.getD_eq_getElem?_getD, List.getD_eq_getElem?_getD, List.getD_eq_getElem?_getD]
  by_cases h : i < a.length
  · rw [List.getElem?_append_left h, if_pos h]
  · rw [List.getElem?_append_right (by omega), if_neg h]
/-- All that a frame's rows have. -/
def full (rows : Nat) (X : List UInt8) (r c : Nat) : UInt8 := cf (rowW rows X r) c
theorem full_data {rows : Nat} {X : List UInt8} {r c : Nat} (hc : c < 191) : full rows X r c = dat rows X r c := by
  unfold full rowW
  rw [cf_app, rowD_length, if_pos hc]
  unfold rowD; rw [cf_ofF, if_pos hc]
theorem full_par {rows : Nat} {X : List UInt8} {r c : Nat} (hc : 191 ≤ c) : full rows X r c = cf (par (rowD rows X r)) (c - 191) := by
  unfold full rowW
  rw [cf_app, rowD_length, if_neg (by omega)]
theorem par_nil (rows r : Nat) : ∀ k, cf (par (rowD rows [] r)) k = 0 := fun k => by
  have h : rowD rows [] r = List.replicate 191 0 := by
    unfold rowD ofF
    refine List.ext_getElem (by rw [List.length_map, List.length_range, List.length_replicate]) fun i h1 h2 => ?_
    rw [List.getElem_map, List.getElem_replicate, dat_nil]
  have hp : ∀ n : Nat, par (List.replicate n 0) = List.replicate 64 0 := by
    intro n
    induction n with
    | zero => rfl
    | succ n ih =>
      rw [List.replicate_succ', par_snoc, ih]
      unfold nxt ofF
      refine List.ext_getElem (by rw [List.length_map, List.length_range, List.length_replicate]) fun i h1 h2 => ?_
      have hz : ∀ m, cf (List.replicate 64 (0 : UInt8)) m = 0 := fun m => by
        unfold cf; rw [List.getD_eq_getElem?_getD, List.getElem?_replicate]; split <;> rfl
      simp only [List.getElem_map, List.getElem_range, hz, List.getElem_replicate, xself, zero_gm]
  rw [h, hp]
  unfold cf; rw [List.getD_eq_getElem?_getD, List.getElem?_replicate]; split <;> rfl
theorem full_nil (rows r c : Nat) : full rows [] r c = 0 := by
  by_cases h : c < 191
  · rw [full_data h]; rfl
  · rw [full_par (by omega)]; exact par_nil rows r _
/-- A matrix of which one cell is another. -/
def updM (M : Nat → Nat → UInt8) (r c : Nat) (x : UInt8) : Nat → Nat → UInt8 := fun i j => if i = r ∧ j = c then x else M i j
/-- The columns that have something, at least in part. -/
def colsUsed (rows n : Nat) : Nat := (n + rows - 1) / rows
theorem cols_div {rows n : Nat} (h : 0 < rows) (hn : 0 < n) : (n - 1) / rows + 1 = colsUsed rows n := by
  unfold colsUsed
  rw [show n + rows - 1 = (n - 1) + rows by omega, Nat.add_div_right _ h]
end Go.Proofs.YtpkpfebhdgbgbaaGreatDoor.K
namespace Go.Proofs.YtpkpfebhdgbgbaaGreatDoor.K
set_option linter.unusedSimpArgs false

theorem snocA {α : Type} {p : List α → Prop} (l : List α) (h0 : p []) (hs : ∀ l c, p l → p (l ++ [c])) : p l := by
  have h : ∀ l : List α, p l.reverse := fun l => by
    induction l with
    | nil => exact h0
    | cons c l ih => rw [List.reverse_cons]; exact hs _ _ ih
  have := h l.reverse
  rwa [List.reverse_reverse] at this
theorem ofF_get (n : Nat) (f : Nat → UInt8) (i : Nat) (h : i < (ofF n f).length) : (ofF n f)[i] = f i := by
  simp only [ofF, List.getElem_map, List.getElem_range]
theorem ofF_ext {n : Nat} {f g : Nat → UInt8} (h : ∀ i, i < n → f i = g i) : ofF n f = ofF n g := by
  unfold ofF
  exact List.map_congr_left fun i hi => h i (by rwa [List.mem_range] at hi)
theorem colD_snoc {rows : Nat} (Y : List UInt8) (b : UInt8) (n : Nat) : colD rows (Y ++ [b]) n = if Y.length / rows = n then (colD rows Y n).set (Y.length % rows) b else colD rows Y n := by
  unfold colD
  by_cases h : Y.length / rows = n
  · rw [if_pos h]
    refine List.ext_getElem (by rw [List.length_set, ofF_length, ofF_length]) fun i h1 h2 => ?_
    rw [ofF_length] at h1
    rw [List.getElem_set, ofF_get, ofF_get, dat_snoc Y b h1]
    by_cases hi : Y.length % rows = i
    · rw [if_pos hi, if_pos ⟨hi.symm, h.symm⟩]
    · rw [if_neg hi, if_neg (fun h9 => hi h9.1.symm)]
  · rw [if_neg h]
    exact ofF_ext fun i hi => by rw [dat_snoc Y b hi, if_neg (fun h9 => h h9.2.symm)]
theorem rowD_snoc {rows : Nat} (Y : List UInt8) (b : UInt8) {r : Nat} (hr : r < rows) : rowD rows (Y ++ [b]) r = if Y.length % rows = r then (rowD rows Y r).set (Y.length / rows) b else rowD rows Y r := by
  unfold rowD
  by_cases h : Y.length % rows = r
  · rw [if_pos h]
    refine List.ext_getElem (by rw [List.length_set, ofF_length, ofF_length]) fun i h1 h2 => ?_
    rw [List.getElem_set, ofF_get, ofF_get, dat_snoc Y b hr]
    by_cases hi : Y.length / rows = i
    · rw [if_pos hi, if_pos ⟨h.symm, hi.symm⟩]
    · rw [if_neg hi, if_neg (fun h9 => hi h9.2.symm)]
  · rw [if_neg h]
    exact ofF_ext fun i hi => by rw [dat_snoc Y b hr, if_neg (fun h9 => h h9.1.symm)]
theorem colD_nil (rows n : Nat) : colD rows [] n = List.replicate rows 0 := by
  unfold colD
  refine List.ext_getElem (by rw [ofF_length, List.length_replicate]) fun i h1 h2 => ?_
  rw [ofF_get, List.getElem_replicate, dat_nil]
theorem rowD_nil (rows r : Nat) : rowD rows [] r = List.replicate 191 0 := by
  unfold rowD
  refine List.ext_getElem (by rw [ofF_length, List.length_replicate]) fun i h1 h2 => ?_
  rw [ofF_get, List.getElem_replicate, dat_nil]
/-- A column, of data or of parity. -/
def colW (rows : Nat) (X : List UInt8) (n : Nat) : List UInt8 := ofF rows (fun r => full rows X r n)
theorem colW_length (rows : Nat) (X : List UInt8) (n : Nat) : (colW rows X n).length = rows := ofF_length _ _
theorem colW_data {rows : Nat} {X : List UInt8} {n : Nat} (h : n < 191) : colW rows X n = colD rows X n := by
  unfold colW colD; exact ofF_ext fun i _ => full_data h
theorem ofF_app (m n : Nat) (f : Nat → UInt8) : ofF m f ++ ofF n (fun r => f (m + r)) = ofF (m + n) f := by
  unfold ofF
  rw [List.range_add, List.map_append, List.map_map]
  rfl
/-- So many columns of data, one behind the other. -/
theorem cols_snoc (rows : Nat) (X : List UInt8) (n : Nat) : ofF (n * rows) (cf X) ++ colD rows X n = ofF ((n + 1) * rows) (cf X) := by
  unfold colD dat
  rw [ofF_app, Nat.add_mul, Nat.one_mul]
theorem ofF_take (n : Nat) (f : Nat → UInt8) (m : Nat) (h : m ≤ n) : (ofF n f).take m = ofF m f := by
  refine List.ext_getElem (by rw [List.length_take, ofF_length, ofF_length]; omega) fun i h1 h2 => ?_
  rw [List.getElem_take, ofF_get, ofF_get]
theorem ofF_cf (X : List UInt8) : ofF X.length (cf X) = X := by
  refine List.ext_getElem (ofF_length _ _) fun i h1 h2 => ?_
  rw [ofF_get, cf_lt h2]
/-- All columns begin with the text, and are 0 behind it. -/
theorem cols_text {n : Nat} {X : List UInt8} (h : X.length ≤ n) : (ofF n (cf X)).take X.length = X := by rw [ofF_take _ _ _ h, ofF_cf]
theorem cols_rest {n : Nat} {X : List UInt8} (i : Nat) (h : X.length ≤ i) : cf (ofF n (cf X)) i = 0 := by
  rw [cf_ofF]
  split
  · exact cf_ge h
  · rfl
/-- Datagrams, one behind the other. -/
def catD (D : List (List UInt8)) : List UInt8 := D.flatten
theorem catD_snoc (D : List (List UInt8)) (d : List UInt8) : catD (D ++ [d]) = catD D ++ d := by unfold catD; rw [List.flatten_append]; simp
/-- The places at which they begin. -/
def atsD : Nat → List (List UInt8) → List Nat
  | _, [] => []
  | n, d :: D => n :: atsD (n + d.length) D
theorem atsD_length (n : Nat) (D : List (List UInt8)) : (atsD n D).length = D.length := by
  induction D generalizing n with
  | nil => rfl
  | cons d D ih => show (n :: atsD (n + d.length) D).length = _; rw [List.length_cons, ih, List.length_cons]
theorem atsD_snoc (n : Nat) (D : List (List UInt8)) (d : List UInt8) : atsD n (D ++ [d]) = atsD n D ++ [n + (catD D).length] := by
  induction D generalizing n with
  | nil => simp [atsD, catD]
  | cons e D ih =>
    show n :: atsD (n + e.length) (D ++ [d]) = n :: atsD (n + e.length) D ++ _
    rw [ih]
    simp [catD, Nat.add_assoc]
theorem cols_last {rows n L : Nat} (hr : 0 < rows) : n * rows < L ↔ n < colsUsed rows L := by
  unfold colsUsed
  rw [Nat.lt_div_iff_mul_lt hr]
  omega
end Go.Proofs.YtpkpfebhdgbgbaaGreatDoor.K
namespace Go.Proofs.YtpkpfebhdgbgbaaGreatDoor.K
open Go.RowKit
set_option linter.unusedSimpArgs false
set_option linter.unusedVariables false

/-- Rows of 255 bytes in one block. -/
def GridAt (w : World) (G rows : Nat) (M : Nat → Nat → UInt8) : Prop :=
  ∃ C : Array Value, w.heap[G]? = some (.cells C 97 (0, 0)) ∧ C.size = rows * 255 ∧ ∀ r c, r < rows → c < 255 → C[r * 255 + c]? = some (.int .u8 ((M r c).toNat : Int))
theorem GridAt.cell {w : World} {G rows : Nat} {M : Nat → Nat → UInt8} (h : GridAt w G rows M) {r c : Nat} (hr : r < rows) (hc : c < 255) : w.cell? ⟨G, r * 255 + c, none⟩ = some (.int .u8 ((M r c).toNat : Int)) := by
  obtain ⟨C, h1, _, h3⟩ := h
  rw [cell_of h1]; exact h3 r c hr hc
theorem GridAt.free {w : World} {G rows : Nat} {M : Nat → Nat → UInt8} (h : GridAt w G rows M) (i : Nat) : w.frozen? ⟨G, i, none⟩ = false := by
  obtain ⟨C, h1, _, _⟩ := h
  exact free_of h1 i
theorem GridAt.lt {w : World} {G rows : Nat} {M : Nat → Nat → UInt8} (h : GridAt w G rows M) : G < w.heap.size := by
  obtain ⟨C, h1, _, _⟩ := h
  exact heap_lt h1
theorem GridAt.same {w w' : World} {G rows : Nat} {M : Nat → Nat → UInt8} {S : List Nat} (h : GridAt w G rows M) (hs : Same S w w') (hn : G ∉ S) : GridAt w' G rows M := by
  obtain ⟨C, h1, h2, h3⟩ := h
  exact ⟨C, hs.heap h1 hn, h2, h3⟩
theorem cell_ix {r c r' c' : Nat} (hc : c < 255) (hc' : c' < 255) : r * 255 + c = r' * 255 + c' ↔ r = r' ∧ c = c' := by omega
theorem GridAt.set {w : World} {G rows : Nat} {M : Nat → Nat → UInt8} (h : GridAt w G rows M) {r c : Nat} (hr : r < rows) (hc : c < 255) (x : UInt8) : GridAt (w.setCell ⟨G, r * 255 + c, none⟩ (.int .u8 (x.toNat : Int))) G rows (updM M r c x) := by
  obtain ⟨C, h1, h2, h3⟩ := h
  refine ⟨_, set_same h1 _, by rw [Array.size_setIfInBounds, h2], fun i j hi hj => ?_⟩
  rw [Array.getElem?_setIfInBounds]
  unfold updM
  by_cases he : r * 255 + c = i * 255 + j
  · obtain ⟨e1, e2⟩ := (cell_ix hc hj).1 he
    rw [if_pos he, if_pos (by rw [h2]; omega), if_pos ⟨e1.symm, e2.symm⟩]
  · rw [if_neg he, if_neg (fun h9 => he ((cell_ix hc hj).2 ⟨h9.1.symm, h9.2.symm⟩)), h3 i j hi hj]
theorem GridAt.ext {w : World} {G rows : Nat} {M N : Nat → Nat → UInt8} (h : GridAt w G rows M) (he : ∀ r c, r < rows → c < 255 → M r c = N r c) : GridAt w G rows N := by
  obtain ⟨C, h1, h2, h3⟩ := h
  exact ⟨C, h1, h2, fun r c hr hc => by rw [h3 r c hr hc, he r c hr hc]⟩
/-- Some cells of a row, one behind the other. -/
def updR (M : Nat → Nat → UInt8) (r c : Nat) (l : List UInt8) : Nat → Nat → UInt8 := fun i j => if i = r ∧ c ≤ j ∧ j < c + l.length then cf l (j - c) else M i j
theorem updR_cons (M : Nat → Nat → UInt8) (r c : Nat) (x : UInt8) (l : List UInt8) : updR (updM M r c x) r (c + 1) l = updR M r c (x :: l) := by
  funext i j
  unfold updR updM
  rw [List.length_cons]
  by_cases hi : i = r
  · by_cases h1 : c + 1 ≤ j ∧ j < c + 1 + l.length
    · rw [if_pos ⟨hi, h1.1, h1.2⟩, if_pos ⟨hi, by omega, by omega⟩, show j - c = (j - (c + 1)) + 1 by omega, cf_succ]
    · rw [if_neg (fun h => h1 ⟨h.2.1, h.2.2⟩)]
      by_cases h2 : j = c
      · rw [if_pos ⟨hi, h2⟩, if_pos ⟨hi, by omega, by omega⟩, h2, Nat.sub_self, cf_zero]
      · rw [if_neg (fun h => h2 h.2), if_neg (fun h => by omega)]
  · rw [if_neg (fun h => hi h.1), if_neg (fun h => hi h.1), if_neg (fun h => hi h.1)]
theorem GridAt.sets {G rows : Nat} {r : Nat} (hr : r < rows) (l : List UInt8) : ∀ {w : World} {M : Nat → Nat → UInt8} {c : Nat}, GridAt w G rows M → c + l.length ≤ 255 → GridAt (w.setCells G (r * 255 + c) (u8l l)) G rows (updR M r c l) := by
  induction l with
  | nil =>
    intro w M c h _
    have e : w.setCells G (r * 255 + c) (u8l []) = w := rfl
    rw [e]
    refine h.ext fun i j _ _ => ?_
    unfold updR
    rw [if_neg (fun h9 => by have := h9.2.2; simp at this; omega)]
  | cons x l ih =>
    intro w M c h hc
    rw [List.length_cons] at hc
    rw [← updR_cons]
    have h2 := ih (c := c + 1) (h.set hr (show c < 255 by omega) x) (by omega)
    rw [← Nat.add_assoc] at h2
    exact h2
theorem sets_same {S : List Nat} {G : Nat} (vs : List Value) : ∀ {a b : World} {o : Nat}, Same S a b → (G < a.heap.size → G ∈ S) → Same S a (b.setCells G o vs) := by
  induction vs with
  | nil => intro a b o h _; exact h
  | cons v vs ih => intro a b o h hG; exact ih (h.setCell hG v) hG

def lbD (D : List ByteArray) : List (List UInt8) := D.map lb
def txt (D : List ByteArray) : List UInt8 := catD (lbD D)
theorem txt_snoc (D : List ByteArray) (d : ByteArray) : txt (D ++ [d]) = txt D ++ lb d := by unfold txt lbD; rw [List.map_append]; exact catD_snoc _ _
theorem txt_nil : txt [] = [] := rfl
def atsT (D : List ByteArray) : List Nat := atsD 0 (lbD D)
theorem atsT_length (D : List ByteArray) : (atsT D).length = D.length := by unfold atsT lbD; rw [atsD_length, List.length_map]
theorem atsT_snoc (D : List ByteArray) (d : ByteArray) : atsT (D ++ [d]) = atsT D ++ [(txt D).length] := by
  unfold atsT lbD txt; rw [List.map_append, List.map_cons, List.map_nil, atsD_snoc, Nat.zero_add]; rfl
/-- The cells of datagrams that are placed. -/
def plL (D : List ByteArray) : List Value := ((atsT D).zip D).flatMap fun p => [.int .i64 (p.1 : Int), .string p.2]
theorem plL_snoc (D : List ByteArray) (d : ByteArray) : plL (D ++ [d]) = plL D ++ [.int .i64 ((txt D).length : Int), .string d] := by
  unfold plL
  rw [atsT_snoc, List.zip_append (by rw [atsT_length]), List.flatMap_append]; rfl
theorem plL_length (D : List ByteArray) : (plL D).length = D.length * 2 := by
  induction D using snocA with
  | h0 => rfl
  | hs D d ih => rw [plL_snoc, List.length_append, ih, List.length_append]; simp; omega
/-- What is in its rows: data, and parity, if it is not stale. -/
def Holds (R : Nat) (X : List UInt8) (old : Bool) (M : Nat → Nat → UInt8) : Prop := (∀ r c, r < R → c < 191 → M r c = dat R X r c) ∧ (old = false → ∀ r c, r < R → c < 255 → M r c = full R X r c)
def frC (R C K : Nat) (lv : Value) (n G : Nat) (old : Bool) : Array Value := #[.int .i64 (R : Int), .int .i64 (C : Int), .int .i64 (K : Int), lv, .int .i64 (n : Int), .slice (some ⟨G, 0, none⟩) R R, .bool old]
structure FrIn (w : World) (bl : List Nat) (p R C K : Nat) (D : List ByteArray) (old : Bool) (G : Nat) (lv : Value) (M : Nat → Nat → UInt8) : Prop where
  head : w.heap[p]? = some (.cells (frC R C K lv (txt D).length G old) 95 (0, 0))
  grid : GridAt w G R M
  holds : Holds R (txt D) old M
  row : w.ownsRow 0 158 2 lv D.length (plL D)
  inP : p ∈ bl
  inG : G ∈ bl
  neG : p ≠ G
  own : ∀ q, lv.ownBlock = some q → q ∈ bl ∧ q ≠ p ∧ q ≠ G
  low : 256 ≤ R ∧ R ≤ 1024 ∧ C ≤ 191 ∧ K ≤ 64 ∧ 1 ≤ C
  room : (txt D).length ≤ R * C
  few : D.length ≤ 100
  below : ∀ x ∈ bl, x < w.heap.size
/-- A frame: its blocks are among bl. -/
def FrAt (w : World) (bl : List Nat) (p R C K : Nat) (D : List ByteArray) (old : Bool) : Prop := ∃ G lv M, FrIn w bl p R C K D old G lv M
theorem FrIn.same {w w' : World} {bl S : List Nat} {p R C K : Nat} {D : List ByteArray} {old : Bool} {G : Nat} {lv : Value} {M : Nat → Nat → UInt8} (h : FrIn w bl p R C K D old G lv M) (hs : Same S w w') (hn : ∀ x ∈ bl, x ∉ S) : FrIn w' bl p R C K D old G lv M :=
  { h with
    head := hs.heap h.head (hn _ h.inP)
    grid := h.grid.same hs (hn _ h.inG)
    row := own_same h.row hs (fun k hk => hn _ (h.own k hk).1)
    below := fun x hx => Nat.lt_of_lt_of_le (h.below x hx) hs.size }
theorem FrAt.same {w w' : World} {bl S : List Nat} {p R C K : Nat} {D : List ByteArray} {old : Bool} (h : FrAt w bl p R C K D old) (hs : Same S w w') (hn : ∀ x ∈ bl, x ∉ S) : FrAt w' bl p R C K D old := by
  obtain ⟨G, lv, M, h⟩ := h
  exact ⟨G, lv, M, h.same hs hn⟩
theorem FrAt.quiet {w w' : World} {bl : List Nat} {p R C K : Nat} {D : List ByteArray} {old : Bool} (h : FrAt w bl p R C K D old) (hs : Same [] w w') : FrAt w' bl p R C K D old := h.same hs (fun _ _ => by simp)
end Go.Proofs.YtpkpfebhdgbgbaaGreatDoor.K
