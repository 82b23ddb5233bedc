/- PackerBytes, the parts in plain Lean: the first fault of packets, their bytes ahead of it; texts of bytes 0. Bytes as a function. Condition of that: the table 'widths' lies. -/
import Derived.Test.YtpnbhgmcfooppaaDoorDBy1
import Derived.Test.YtpnbhgmcfooppaaDoorDMn2
import Derived.Test.YtpnbhgmcfooppaaDoorDEn5
import Derived.Test.YtpnbhgmcfooppaaDoorDPq5
namespace Go.Proofs.YtpnbhgmcfooppaaDoor
open Go.RowKit
set_option linter.unusedSimpArgs false
set_option linter.unusedVariables false

def errP : List PkD → Int
  | [] => 0
  | q :: l => if chkP q = 0 then errP l else chkP q
def okP : List PkD → List PkD
  | [] => []
  | q :: l => if chkP q = 0 then q :: okP l else []
theorem errP_snoc (l : List PkD) (q : PkD) : errP (l ++ [q]) = if errP l = 0 then chkP q else errP l := by
  induction l with
  | nil => show (if chkP q = 0 then (0 : Int) else chkP q) = if (0 : Int) = 0 then chkP q else 0
           rw [if_pos rfl]; split
           · rename_i h; exact h.symm
           · rfl
  | cons x l ih =>
    show (if chkP x = 0 then errP (l ++ [q]) else chkP x) = if (if chkP x = 0 then errP l else chkP x) = 0 then chkP q else (if chkP x = 0 then errP l else chkP x)
    by_cases h : chkP x = 0
    · rw [if_pos h, if_pos h, ih]
    · rw [if_neg h, if_neg h, if_neg h]
theorem okP_all : ∀ {l : List PkD}, errP l = 0 → okP l = l ∧ ∀ q ∈ l, chkP q = 0
  | [], _ => ⟨rfl, fun q h => nomatch h⟩
  | x :: l, h => by
    unfold errP at h
    split at h
    · rename_i h0
      obtain ⟨h1, h2⟩ := okP_all h
      refine ⟨by unfold okP; rw [if_pos h0, h1], fun q hq => ?_⟩
      rcases List.mem_cons.1 hq with rfl | hq
      · exact h0
      · exact h2 q hq
    · rename_i h0; exact absurd h h0
theorem errP_all : ∀ {l : List PkD}, (∀ q ∈ l, chkP q = 0) → errP l = 0
  | [], _ => rfl
  | x :: l, h => by
    unfold errP
    rw [if_pos (h x List.mem_cons_self)]
    exact errP_all fun q hq => h q (List.mem_cons_of_mem _ hq)
theorem errP_bad {pre post : List PkD} {q : PkD} (h : ∀ x ∈ pre, chkP x = 0) (hq : chkP q ≠ 0) : errP (pre ++ q :: post) = chkP q := by
  induction pre with
  | nil => show (if chkP q = 0 then errP post else chkP q) = chkP q; rw [if_neg hq]
  | cons x pre ih =>
    show (if chkP x = 0 then errP (pre ++ q :: post) else chkP x) = chkP q
    rw [if_pos (h x List.mem_cons_self)]
    exact ih fun y hy => h y (List.mem_cons_of_mem _ hy)
theorem okP_snoc (l : List PkD) (q : PkD) : okP (l ++ [q]) = if errP l = 0 ∧ chkP q = 0 then okP l ++ [q] else okP l := by
  induction l with
  | nil =>
    show (if chkP q = 0 then [q] else []) = if (0 : Int) = 0 ∧ chkP q = 0 then [] ++ [q] else []
    by_cases h : chkP q = 0
    · rw [if_pos h, if_pos ⟨rfl, h⟩]; rfl
    · rw [if_neg h, if_neg (fun h9 => h h9.2)]
  | cons x l ih =>
    show (if chkP x = 0 then x :: okP (l ++ [q]) else []) = if (if chkP x = 0 then errP l else chkP x) = 0 ∧ chkP q = 0 then (if chkP x = 0 then x :: okP l else []) ++ [q] else (if chkP x = 0 then x :: okP l else [])
    by_cases h : chkP x = 0
    · simp only [if_pos h]
      rw [ih]
      split <;> rfl
    · simp only [if_neg h]
      rw [if_neg (fun h9 => h h9.1)]
theorem okP_ok : ∀ (l : List PkD), ∀ q ∈ okP l, chkP q = 0
  | [], q, h => nomatch h
  | x :: l, q, h => by
    unfold okP at h
    split at h
    · rename_i h0
      rcases List.mem_cons.1 h with rfl | h
      · exact h0
      · exact okP_ok l q h
    · exact nomatch h
theorem okP_len : ∀ (l : List PkD), (okP l).length ≤ l.length
  | [] => Nat.le_refl _
  | x :: l => by
    unfold okP
    split
    · have := okP_len l; simp only [List.length_cons]; omega
    · simp
/-- What Bytes answers. -/
def bytesS (ps : List PkD) : ByteArray := if errP ps = 0 then catP (okP ps) else ⟨#[]⟩
theorem pbytes_fn (ps : List PkD) (v : Value) (w : World) (hp : PktsAt w v ps) (ht : Tab w) (hl : ps.length < 68719476736) :
    Calls Tryd.prog 20 #[v] w (Ret (.tuple #[.string (bytesS ps), .int .i64 (errP ps)]) w) := by
  refine (bytes_any ps v w hp ht hl).mono fun e w' ⟨hs, h⟩ => ⟨?_, hs⟩
  rcases h with ⟨h1, rfl⟩ | ⟨pre, q, post, rfl, h1, h2, rfl⟩
  · have h0 := errP_all h1
    unfold bytesS
    rw [h0, if_pos rfl, (okP_all h0).1]
  · have h0 := errP_bad (post := post) h1 h2
    unfold bytesS
    rw [h0, if_neg h2]
/-- So many bytes 0. -/
def zS (n : Nat) : ByteArray := strOf (List.replicate n 0)
theorem size_zS (n : Nat) : (zS n).size = n := by unfold zS; rw [size_strOf, List.length_replicate]
theorem make_z (n : Nat) (hn : n ≤ 100000) (w : World) :
    (Instr.makeSlice 48 (.int .i64 (n : Int)) (.int .i64 (n : Int))).run Tryd.prog w = .ok (.slice (some ⟨w.heap.size, 0, none⟩) n n) (w.alloc (.cells (madeCells #[.int .u8 0] n) 5)) := by
  obtain ⟨i0, hi, hz0, hz1, hz2⟩ := info_parts Tryd.infoB
  have hr := run_make (P := Tryd.prog) w 48 5 i0 (.int .u8 0) Tryd.underlying48 hi hz0 .i64 .i64 (n : Int) (n : Int) (by omega) (by omega) (by rw [hz2]; omega) (by omega)
  simp only [Int.toNat_natCast, hz1, Nat.mul_one] at hr
  exact hr
theorem z_str (n : Nat) (hn : n ≤ 100000) (w : World) : (convert 48 9 (.slice (some ⟨w.heap.size, 0, none⟩) n n)).run Tryd.prog (w.alloc (.cells (madeCells #[.int .u8 0] n) 5)) = .ok (.string (zS n)) (w.alloc (.cells (madeCells #[.int .u8 0] n) 5)) := by
  have hl : (madeCells #[.int .u8 0] n).toList = List.replicate n (.int .u8 0) := toList_madeCells_one _ _
  have hu : (u8s (List.replicate n 0)).length = n := by rw [length_u8s, List.length_replicate]
  have hr : RowF (w.alloc (.cells (madeCells #[.int .u8 0] n) 5)) (.slice (some ⟨w.heap.size, 0, none⟩) n n) w.heap.size (u8s (List.replicate n 0)) := by
    refine ⟨n, by rw [hu], by rw [hu]; exact Nat.le_refl _, by unfold maxLen; omega, fun j u hj => ?_, fun j hj => ⟨?_, free_of (heap_alloc_new w _) j⟩⟩
    · rw [cell_of (heap_alloc_new w _), ← Array.getElem?_toList, hl, ← hj]
      simp [u8s]
    · rw [cell_of (heap_alloc_new w _), ← Array.getElem?_toList, hl, List.getElem?_replicate, if_pos hj]; rfl
  exact rowF_string hr
/-- The texts of bytes 0 for numbers. -/
def zsL (xs : List Int) : List ByteArray := xs.map fun x => zS x.toNat
theorem zsL_snoc (xs : List Int) (n : Nat) : zsL (xs ++ [(n : Int)]) = zsL xs ++ [zS n] := by unfold zsL; rw [List.map_append]; simp
theorem zsL_length (xs : List Int) : (zsL xs).length = xs.length := by simp [zsL]
theorem z_same (xs : List Int) : (packG (catL (zsL xs)).size ⟨#[]⟩ (zsL xs)).length = (packG (catL (xsL xs)).size ⟨#[]⟩ (xsL xs)).length := by
  have h : sizesL (zsL xs) = sizesL (xsL xs) := by
    unfold sizesL zsL xsL
    rw [List.map_map, List.map_map]
    refine List.map_congr_left fun x hx => ?_
    show (zS x.toNat).size = (xS x.toNat).size
    rw [size_zS, size_xS]
  have hc : (catL (zsL xs)).size = (catL (xsL xs)).size := by rw [cat_sizes, cat_sizes, h]
  rw [hc]
  exact pack_sizes _ _ _ _ _ rfl h
/-- Those of the numbers that may be. -/
instance (x : Int) : Decidable (MayN x) := inferInstanceAs (Decidable (_ ∧ _))
def mayL (xs : List Int) : List Int := xs.filter fun x => decide (MayN x)
def allB (xs : List Int) : Bool := xs.all fun x => decide (MayN x)
theorem mayL_yes (xs : List Int) {x : Int} (h : MayN x) : mayL (xs ++ [x]) = mayL xs ++ [x] := by unfold mayL; rw [List.filter_append]; simp [h]
theorem mayL_no (xs : List Int) {x : Int} (h : ¬ MayN x) : mayL (xs ++ [x]) = mayL xs := by unfold mayL; rw [List.filter_append]; simp [h]
theorem allB_yes (xs : List Int) {x : Int} (h : MayN x) : allB (xs ++ [x]) = allB xs := by unfold allB; rw [List.all_append]; simp [h]
theorem allB_no (xs : List Int) {x : Int} (h : ¬ MayN x) : allB (xs ++ [x]) = false := by unfold allB; rw [List.all_append]; simp [h]
theorem mayL_all {xs : List Int} (h : allB xs = true) : mayL xs = xs ∧ ∀ x ∈ xs, MayN x := by
  unfold allB at h
  rw [List.all_eq_true] at h
  have h2 : ∀ x ∈ xs, MayN x := fun x hx => by simpa using h x hx
  exact ⟨List.filter_eq_self.2 h, h2⟩
theorem mayL_len (xs : List Int) : (mayL xs).length ≤ xs.length := List.length_filter_le _ _
theorem mayL_may (xs : List Int) : ∀ x ∈ mayL xs, MayN x := fun x hx => by simpa using (List.mem_filter.1 hx).2
/-- What Many answers, as a number. -/
def manyZ (xs : List Int) : Nat := if allB xs = true then (packG (catL (zsL xs)).size ⟨#[]⟩ (zsL xs)).length else 0
theorem many_fn (xs : List Int) (v : Value) (w : World) (hr : NumsAt w v xs) (hl : xs.length ≤ 1000) : Calls Tryd.prog 22 #[v] w (Ret (.int .i64 (manyZ xs : Nat)) w) := by
  refine (many_any xs v w hr hl).mono fun e w' ⟨hs, h⟩ => ⟨?_, hs⟩
  rcases h with ⟨h1, rfl⟩ | ⟨⟨x, h1, h2⟩, rfl⟩
  · have : allB xs = true := by unfold allB; rw [List.all_eq_true]; exact fun x hx => by simpa using h1 x hx
    unfold manyZ
    rw [if_pos this, z_same]
  · have : ¬ allB xs = true := fun h => h2 ((mayL_all h).2 x h1)
    unfold manyZ
    rw [if_neg this]; rfl
theorem cat_zs (xs : List Int) (h : ∀ x ∈ xs, MayN x) : (catL (zsL xs)).size ≤ 4096 * xs.length := by
  have h1 := cat_xs xs h
  have h2 : sizesL (zsL xs) = sizesL (xsL xs) := by
    unfold sizesL zsL xsL
    rw [List.map_map, List.map_map]
    refine List.map_congr_left fun x hx => ?_
    show (zS x.toNat).size = (xS x.toNat).size
    rw [size_zS, size_xS]
  rw [cat_sizes, h2, ← cat_sizes]; exact h1
end Go.Proofs.YtpnbhgmcfooppaaDoor
