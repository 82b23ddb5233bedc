/- The joiner's small parts, and the reference's: Check, lose, worse, Held, Lost, Drop, New, Plain, Need. Conditions: texts are not too long. How many bytes the section has that begins so (Need), in the program and in the reference; New, Plain. Conditions: the bytes are at least three, and fewer than 2^40. How many bytes the section has that begins so (section.Need). Conditions: the bytes are at least three, and fewer than 2^40. -/
import Derived.Test.YtpkpfebhdgbgbaaGreatDoorBitsIn
import Derived.Test.YtpkpfebhdgbgbaaGreatDoorOpenPkts
import Derived.Test.YtpkpfebhdgbgbaaGreatDoorJumps
namespace Go.Proofs.YtpkpfebhdgbgbaaGreatDoor.J
open Go.RowKit
set_option linter.unusedSimpArgs false
set_option linter.unusedVariables false

theorem ret_bool {x y : Bool} (h : x = y) : Ending.returned (.bool x) = .returned (.bool y) := by rw [h]
theorem ret_int {k : IntKind} {x y : Int} (h : x = y) : Ending.returned (.int k x) = .returned (.int k y) := by rw [h]

/-- What is wrong with a packet. -/
def chkG (pid count : Int) (body : ByteArray) : Int := if pid < 0 ∨ 8192 ≤ pid ∨ count < 0 ∨ 15 < count then 15 else if 184 < body.size then 17 else 0
def NumPost (w : World) (n : Int) (e : Ending) (w' : World) : Prop := e = .returned (.int .i64 n) ∧ Same [] w w'

theorem chk_cases (pid count : Int) (body : ByteArray) :
    (pid < 0 ∧ chkG pid count body = 15) ∨ (0 ≤ pid ∧ 8192 ≤ pid ∧ chkG pid count body = 15) ∨ (0 ≤ pid ∧ pid < 8192 ∧ count < 0 ∧ chkG pid count body = 15) ∨ (0 ≤ pid ∧ pid < 8192 ∧ 0 ≤ count ∧ 15 < count ∧ chkG pid count body = 15) ∨
    (0 ≤ pid ∧ pid < 8192 ∧ 0 ≤ count ∧ count ≤ 15 ∧ (184 : Int) < (body.size : Int) ∧ chkG pid count body = 17) ∨ (0 ≤ pid ∧ pid < 8192 ∧ 0 ≤ count ∧ count ≤ 15 ∧ (body.size : Int) ≤ 184 ∧ chkG pid count body = 0) := by
  unfold chkG
  by_cases h1 : pid < 0
  · left; simp [h1]
  by_cases h2 : 8192 ≤ pid
  · right; left; simp [h2]; omega
  by_cases h3 : count < 0
  · right; right; left; simp [h3]; omega
  by_cases h4 : 15 < count
  · right; right; right; left; simp [h4]; omega
  have hn : ¬ (pid < 0 ∨ 8192 ≤ pid ∨ count < 0 ∨ 15 < count) := by omega
  by_cases h5 : 184 < body.size
  · right; right; right; right; left; rw [if_neg hn, if_pos h5]; refine ⟨by omega, by omega, by omega, by omega, by omega, rfl⟩
  · right; right; right; right; right; rw [if_neg hn, if_neg h5]; refine ⟨by omega, by omega, by omega, by omega, by omega, rfl⟩

theorem pcheck_any (pid : Int) (st : Bool) (count : Int) (bad : Bool) (body : ByteArray) (w : World) :
    Calls Tryz.prog 68 #[.agg #[.int .i64 pid, .bool st, .int .i64 count, .bool bad, .string body]] w (NumPost w (chkG pid count body)) := by
  rcases chk_cases pid count body with ⟨h1, he⟩ | ⟨h1, h2, he⟩ | ⟨h1, h2, h3, he⟩ | ⟨h1, h2, h3, h4, he⟩ | ⟨h1, h2, h3, h4, h5, he⟩ | ⟨h1, h2, h3, h4, h5, he⟩
  all_goals
    rw [he]
    clear he
    go_enter Tryz.func68, Tryz.ntmps68
    go_wp2
    go_ret
    exact ⟨rfl, (Same.refl _ w).alloc _⟩
def jV (pid : Int) (hold : ByteArray) (fol : Bool) (c : Int) (bd : ByteArray) (lost : Int) : Array Value := #[.int .i64 pid, .string hold, .bool fol, .int .i64 c, .string bd, .int .i64 lost]
def rV (pid : Int) (hold : ByteArray) (fol : Bool) (sn : Bool) (c : Int) (bd : ByteArray) (lost : Int) : Array Value := #[.int .i64 pid, .string hold, .bool fol, .bool sn, .int .i64 c, .string bd, .int .i64 lost]
/-- Block b is a joiner. -/
def IsJ (w : World) (b : Nat) (pid : Int) (hold : ByteArray) (fol : Bool) (c : Int) (bd : ByteArray) (lost : Int) : Prop := w.heap[b]? = some (.cells (jV pid hold fol c bd lost) 148 (0, 0))
theorem IsJ.cells {w : World} {b : Nat} {pid : Int} {hold : ByteArray} {fol : Bool} {c : Int} {bd : ByteArray} {lost : Int} (h : IsJ w b pid hold fol c bd lost) :
    (w.cell? ⟨b, 0, none⟩ = some (.int .i64 pid) ∧ w.cell? ⟨b, 1, none⟩ = some (.string hold) ∧ w.cell? ⟨b, 2, none⟩ = some (.bool fol) ∧ w.cell? ⟨b, 3, none⟩ = some (.int .i64 c) ∧ w.cell? ⟨b, 4, none⟩ = some (.string bd) ∧ w.cell? ⟨b, 5, none⟩ = some (.int .i64 lost)) ∧
    (w.frozen? ⟨b, 1, none⟩ = false ∧ w.frozen? ⟨b, 2, none⟩ = false ∧ w.frozen? ⟨b, 3, none⟩ = false ∧ w.frozen? ⟨b, 4, none⟩ = false ∧ w.frozen? ⟨b, 5, none⟩ = false) := by
  refine ⟨⟨?_, ?_, ?_, ?_, ?_, ?_⟩, ?_, ?_, ?_, ?_, ?_⟩
  all_goals first | exact (cell_of h _).trans rfl | exact free_of h _
theorem IsJ.same {A B : World} {b : Nat} {pid : Int} {hold : ByteArray} {fol : Bool} {c : Int} {bd : ByteArray} {lost : Int} {S : List Nat} (h : IsJ A b pid hold fol c bd lost) (hs : Same S A B) (hb : b ∉ S) : IsJ B b pid hold fol c bd lost := hs.heap h hb
theorem IsJ.set_hold {w : World} {b : Nat} {pid : Int} {hold : ByteArray} {fol : Bool} {c : Int} {bd : ByteArray} {lost : Int} (h : IsJ w b pid hold fol c bd lost) (s : ByteArray) : IsJ (w.setCell ⟨b, 1, none⟩ (.string s)) b pid s fol c bd lost := (set_same h _).trans rfl
theorem IsJ.set_fol {w : World} {b : Nat} {pid : Int} {hold : ByteArray} {fol : Bool} {c : Int} {bd : ByteArray} {lost : Int} (h : IsJ w b pid hold fol c bd lost) (s : Bool) : IsJ (w.setCell ⟨b, 2, none⟩ (.bool s)) b pid hold s c bd lost := (set_same h _).trans rfl
theorem IsJ.set_c {w : World} {b : Nat} {pid : Int} {hold : ByteArray} {fol : Bool} {c : Int} {bd : ByteArray} {lost : Int} (h : IsJ w b pid hold fol c bd lost) (s : Int) : IsJ (w.setCell ⟨b, 3, none⟩ (.int .i64 s)) b pid hold fol s bd lost := (set_same h _).trans rfl
theorem IsJ.set_bd {w : World} {b : Nat} {pid : Int} {hold : ByteArray} {fol : Bool} {c : Int} {bd : ByteArray} {lost : Int} (h : IsJ w b pid hold fol c bd lost) (s : ByteArray) : IsJ (w.setCell ⟨b, 4, none⟩ (.string s)) b pid hold fol c s lost := (set_same h _).trans rfl
theorem IsJ.set_lost {w : World} {b : Nat} {pid : Int} {hold : ByteArray} {fol : Bool} {c : Int} {bd : ByteArray} {lost : Int} (h : IsJ w b pid hold fol c bd lost) (s : Int) : IsJ (w.setCell ⟨b, 5, none⟩ (.int .i64 s)) b pid hold fol c bd s := (set_same h _).trans rfl
def JPost (w : World) (v : Value) (b : Nat) (pid : Int) (hold : ByteArray) (fol : Bool) (c : Int) (bd : ByteArray) (lost : Int) (e : Ending) (w' : World) : Prop := e = .returned v ∧ IsJ w' b pid hold fol c bd lost ∧ Same [b] w w'
theorem jlose_any {w : World} {b : Nat} {pid : Int} {hold : ByteArray} {fol : Bool} {c : Int} {bd : ByteArray} {lost : Int} (h : IsJ w b pid hold fol c bd lost) :
    Calls Tryz.prog 70 #[.pointer (some ⟨b, 0, none⟩)] w (JPost w (.tuple #[]) b pid ⟨#[]⟩ false c bd lost) := by
  obtain ⟨⟨c0, c1, c2, c3, c4, c5⟩, f1, f2, f3, f4, f5⟩ := h.cells
  have H := Lib.hid h
  clear h
  go_enter Tryz.func70, Tryz.ntmps70
  go_wp2
  go_end0
  exact ⟨rfl, (H.out.set_hold _).set_fol _, ((Same.refl [b] w).setCell (by simp) _).setCell (by simp) _⟩
def worseG (a b : Int) : Int := if a = 12 ∨ b = 0 then a else b
theorem worse_any (a b : Int) (w : World) : Calls Tryz.prog 73 #[.int .i64 a, .int .i64 b] w fun e w' => e = .returned (.int .i64 (worseG a b)) ∧ w = w' := by
  by_cases h1 : a = 12
  · subst h1
    go_enter Tryz.func73, Tryz.ntmps73
    go_wp2
    go_ret
    exact ⟨ret_int (by simp [worseG]), rfl⟩
  · have g1 : (a == 12) = false := by simpa using h1
    by_cases h2 : b = 0
    · subst h2
      go_enter Tryz.func73, Tryz.ntmps73
      go_wp2
      go_ret
      exact ⟨ret_int (by simp [worseG]), rfl⟩
    · have g2 : (b == 0) = false := by simpa using h2
      go_enter Tryz.func73, Tryz.ntmps73
      go_wp2
      go_ret
      exact ⟨ret_int (by simp [worseG, h1, h2]), rfl⟩

theorem drop_any {w : World} {b : Nat} {pid : Int} {hold : ByteArray} {fol : Bool} {c : Int} {bd : ByteArray} {lost : Int} (h : IsJ w b pid hold fol c bd lost) :
    Calls Tryz.prog 69 #[.pointer (some ⟨b, 0, none⟩)] w (JPost w (.tuple #[]) b pid ⟨#[]⟩ false 0 ⟨#[]⟩ lost) := by
  have H := Lib.hid (jlose_any h)
  clear h
  go_enter Tryz.func69, Tryz.ntmps69
  go_wp2_with fail
  (with_reducible refine H.out.mono ?_)
  rintro e w1 ⟨rfl, hj, hs⟩
  obtain ⟨⟨c0, c1, c2, c3, c4, c5⟩, f1, f2, f3, f4, f5⟩ := hj.cells
  have HJ := Lib.hid hj; have HS := Lib.hid hs
  clear hj hs H
  go_wp2_with fail
  go_end0
  exact ⟨rfl, (HJ.out.set_c _).set_bd _, (HS.out.setCell (by simp) _).setCell (by simp) _⟩

end Go.Proofs.YtpkpfebhdgbgbaaGreatDoor.J
namespace Go.Proofs.YtpkpfebhdgbgbaaGreatDoor.J
open Go.RowKit
set_option linter.unusedSimpArgs false
set_option linter.unusedVariables false

/-- How many bytes the section has that begins so. -/
def needG (s : ByteArray) : Option Nat :=
  if (byteOf s 1 / 16 = 11 ∨ byteOf s 1 / 16 = 15) ∧ 9 ≤ byteOf s 1 % 16 * 256 + byteOf s 2 ∧ byteOf s 1 % 16 * 256 + byteOf s 2 ≤ 4093 then some (byteOf s 1 % 16 * 256 + byteOf s 2 + 3) else none
theorem byteOf_lt (s : ByteArray) (i : Nat) : byteOf s i < 256 := UInt8.toNat_lt _

def NeedPost (w : World) (s : ByteArray) (e : Ending) (w' : World) : Prop :=
  ((∃ n, needG s = some n ∧ e = .returned (.tuple #[.int .i64 n, .int .i64 0])) ∨ (needG s = none ∧ e = .returned (.tuple #[.int .i64 0, .int .i64 12]))) ∧ Same [] w w'

theorem bread_any (s : ByteArray) (w : World) : Calls Tryz.prog 129 #[.string s] w fun e w' => e = .returned (.pointer (some ⟨w.heap.size, 0, none⟩)) ∧ w.alloc (.cells #[.int .i64 0, .int .i64 0, .string s] 258) = w' := by
  go_enter Tryz.func129, Tryz.ntmps129
  go_wp2
  go_ret
  exact ⟨rfl, rfl⟩

theorem num_8_1 (s : ByteArray) : numFrom s 8 1 = byteOf s 1 / 128 := by
  have := byteOf_lt s 1
  simp [numFrom, strBit]; omega
theorem num_10_2 (s : ByteArray) : numFrom s 10 2 = byteOf s 1 / 16 % 4 := by
  have := byteOf_lt s 1
  simp [numFrom, strBit]; omega
theorem num_12_12 (s : ByteArray) : numFrom s 12 12 = byteOf s 1 % 16 * 256 + byteOf s 2 := by
  have := byteOf_lt s 1; have := byteOf_lt s 2
  simp [numFrom, strBit]; omega

theorem need_ok {s : ByteArray} {F N : Nat} (hF : byteOf s 1 / 16 = F) (hN : byteOf s 1 % 16 * 256 + byteOf s 2 = N) (h : (F = 11 ∨ F = 15) ∧ 9 ≤ N ∧ N ≤ 4093) : needG s = some (N + 3) := by
  unfold needG; rw [hF, hN, if_pos h]
theorem need_no {s : ByteArray} {F N : Nat} (hF : byteOf s 1 / 16 = F) (hN : byteOf s 1 % 16 * 256 + byteOf s 2 = N) (h : ¬ ((F = 11 ∨ F = 15) ∧ 9 ≤ N ∧ N ≤ 4093)) : needG s = none := by
  unfold needG; rw [hF, hN, if_neg h]
theorem need_cases (F N : Nat) (hF : F < 16) (hN : N < 4096) :
    (((F : Int) != 11) = true ∧ ((F : Int) != 15) = true ∧ ¬ ((F = 11 ∨ F = 15) ∧ 9 ≤ N ∧ N ≤ 4093)) ∨
    (((F : Int) != 11) = false ∧ (N : Int) < 9 ∧ ¬ ((F = 11 ∨ F = 15) ∧ 9 ≤ N ∧ N ≤ 4093)) ∨ (((F : Int) != 11) = true ∧ ((F : Int) != 15) = false ∧ (N : Int) < 9 ∧ ¬ ((F = 11 ∨ F = 15) ∧ 9 ≤ N ∧ N ≤ 4093)) ∨
    (((F : Int) != 11) = false ∧ ¬ (N : Int) < 9 ∧ (4093 : Int) < N ∧ ¬ ((F = 11 ∨ F = 15) ∧ 9 ≤ N ∧ N ≤ 4093)) ∨ (((F : Int) != 11) = true ∧ ((F : Int) != 15) = false ∧ ¬ (N : Int) < 9 ∧ (4093 : Int) < N ∧ ¬ ((F = 11 ∨ F = 15) ∧ 9 ≤ N ∧ N ≤ 4093)) ∨
    (((F : Int) != 11) = false ∧ ¬ (N : Int) < 9 ∧ ¬ (4093 : Int) < N ∧ (F = 11 ∨ F = 15) ∧ 9 ≤ N ∧ N ≤ 4093) ∨ (((F : Int) != 11) = true ∧ ((F : Int) != 15) = false ∧ ¬ (N : Int) < 9 ∧ ¬ (4093 : Int) < N ∧ (F = 11 ∨ F = 15) ∧ 9 ≤ N ∧ N ≤ 4093) := by
  simp only [bne_iff_ne, bne_eq_false_iff_eq, ne_eq]; omega

end Go.Proofs.YtpkpfebhdgbgbaaGreatDoor.J
namespace Go.Proofs.YtpkpfebhdgbgbaaGreatDoor.J
open Go.RowKit
set_option linter.unusedSimpArgs false
set_option linter.unusedVariables false

theorem isIn_new (w : World) (s : ByteArray) : IsIn (w.alloc (.cells #[.int .i64 0, .int .i64 0, .string s] 258)) w.heap.size 0 0 s := heap_alloc_new w _

theorem get_at (b p n : Nat) (m : Int) (hm : (n : Int) = m) (s : ByteArray) (w w0 : World) (h : IsIn w b p 0 s) (hw : Same [b] w0 w) (hs : s.size < 1099511627776) (hp : p + n ≤ 8 * s.size) (hn : n ≤ 64) :
    Calls Tryz.prog 130 #[.pointer (some ⟨b, 0, none⟩),   .int .i64 m] w (GetPost w0 b (p + n) 0 s (numFrom s p n)) :=
  hm ▸ (get_ok b p n s w h hs hp hn).mono fun e w' ⟨h1, h2, h3⟩ => ⟨h1, h2, hw.trans h3 (fun x hx _ => hx)⟩

set_option maxHeartbeats 2000000 in
theorem sneed_any (s : ByteArray) (w : World) (h : 3 ≤ s.size) (hs : s.size < 1099511627776) : Calls Tryz.prog 100 #[.string s] w (NeedPost w s) := by
  have h1 := byteOf_lt s 1; have h2 := byteOf_lt s 2
  have hj3 : ¬ (s.size : Int) < 3 := by omega
  obtain ⟨F, hF⟩ : ∃ F, byteOf s 1 / 16 = F := ⟨_, rfl⟩
  obtain ⟨N, hN⟩ : ∃ N, byteOf s 1 % 16 * 256 + byteOf s 2 = N := ⟨_, rfl⟩
  have e1 : numFrom s 8 1 = F / 8 := by rw [num_8_1]; omega
  have e2 : numFrom s 10 2 = F % 4 := by rw [num_10_2]; omega
  have e3 : numFrom s 12 12 = N := by rw [num_12_12]; omega
  have hF16 : F < 16 := by omega
  have hN16 : N < 4096 := by omega
  have E1 := Lib.hid e1; have E2 := Lib.hid e2; have E3 := Lib.hid e3; have HF := Lib.hid hF; have HN := Lib.hid hN; have HS := Lib.hid hs; have H3 := Lib.hid h
  clear e1 e2 e3 hF hN h1 h2 hs h
  go_enter Tryz.func100, Tryz.ntmps100
  go_wp2_with fail
  (with_reducible refine (bread_any _ _).mono ?_)
  rintro e w1 ⟨rfl, rfl⟩
  have hi := isIn_new w s
  have hsm : Same [] w (w.alloc (.cells #[.int .i64 0, .int .i64 0, .string s] 258)) := (Same.refl [] w).alloc _
  generalize w.alloc (.cells #[.int .i64 0, .int .i64 0, .string s] 258) = w0 at *
  have HI := Lib.hid hi; have HW := Lib.hid hsm
  clear hi hsm
  go_wp2_with fail
  (with_reducible refine (get_at w.heap.size 0 8 8 rfl s w0 w0 HI.out (Same.refl _ _) HS.out (by have := H3.out; omega) (by omega)).mono ?_)
  rintro e w1 ⟨rfl, i1, s1⟩
  have I1 := Lib.hid i1; have S1 := Lib.hid s1
  clear i1 s1 HI
  go_wp2_with fail
  (with_reducible refine (get_at w.heap.size 8 1 1 rfl s w1 w0 I1.out S1.out HS.out (by have := H3.out; omega) (by omega)).mono ?_)
  rintro e w2 ⟨rfl, i2, s2⟩
  rw [E1.out]
  have I2 := Lib.hid i2; have S2 := Lib.hid s2
  clear i2 s2 I1 S1
  go_wp2_with fail
  (with_reducible refine (get_at w.heap.size 9 1 1 rfl s w2 w0 I2.out S2.out HS.out (by have := H3.out; omega) (by omega)).mono ?_)
  rintro e w3 ⟨rfl, i3, s3⟩
  have I3 := Lib.hid i3; have S3 := Lib.hid s3
  clear i3 s3 I2 S2
  by_cases hA : F / 8 = 1
  · have gA : ((F : Int) / 8 == 1) = true := by simp; omega
    have gA2 : (F : Int) / 8 = 1 := by omega
    go_wp2_with fail
    (with_reducible refine (get_at w.heap.size 10 2 2 rfl s w3 w0 I3.out S3.out HS.out (by have := H3.out; omega) (by omega)).mono ?_)
    rintro e w4 ⟨rfl, i4, s4⟩
    rw [E2.out]
    have I4 := Lib.hid i4; have S4 := Lib.hid s4
    clear i4 s4 I3 S3
    by_cases hq3 : F % 4 = 3
    case neg =>
      have gq : ((F : Int) % 4 == 3) = false := by simp; omega
      have gq2 : ¬ (F : Int) % 4 = 3 := by omega
      go_wp2_with fail
      (with_reducible refine (get_at w.heap.size 12 12 12 rfl s w4 w0 I4.out S4.out HS.out (by have := H3.out; omega) (by omega)).mono ?_)
      rintro e w5 ⟨rfl, i5, s5⟩
      rw [E3.out]
      have SS := Lib.hid (HW.out.trans s5 (fun x hx hlt => by simp at hx; omega))
      clear i5 s5 I4 S4 gA
      have HH := Lib.hid (show ¬ ((F = 11 ∨ F = 15) ∧ 9 ≤ N ∧ N ≤ 4093) from fun hh => by omega)
      go_wp2_with fail
      go_ret2
      exact ⟨.inr ⟨need_no HF.out HN.out HH.out, rfl⟩, SS.out⟩
    case pos =>
      have gq : ((F : Int) % 4 == 3) = true := by simp; omega
      have gq2 : (F : Int) % 4 = 3 := by omega
      go_wp2_with fail
      (with_reducible refine (get_at w.heap.size 12 12 12 rfl s w4 w0 I4.out S4.out HS.out (by have := H3.out; omega) (by omega)).mono ?_)
      rintro e w5 ⟨rfl, i5, s5⟩
      rw [E3.out]
      have SS := Lib.hid (HW.out.trans s5 (fun x hx hlt => by simp at hx; omega))
      clear i5 s5 I4 S4 gA
      have hA2 : 8 ≤ F := by omega
      by_cases g9 : (N : Int) < 9
      · have HH := Lib.hid (show ¬ ((F = 11 ∨ F = 15) ∧ 9 ≤ N ∧ N ≤ 4093) from fun hh => by omega)
        go_wp2_with fail
        go_ret2
        exact ⟨.inr ⟨need_no HF.out HN.out HH.out, rfl⟩, SS.out⟩
      · by_cases g10 : (4093 : Int) < N
        · have HH := Lib.hid (show ¬ ((F = 11 ∨ F = 15) ∧ 9 ≤ N ∧ N ≤ 4093) from fun hh => by omega)
          go_wp2_with fail
          go_ret2
          exact ⟨.inr ⟨need_no HF.out HN.out HH.out, rfl⟩, SS.out⟩
        · have HH := Lib.hid (show (F = 11 ∨ F = 15) ∧ 9 ≤ N ∧ N ≤ 4093 from ⟨by omega, by omega, by omega⟩)
          go_wp2_with fail
          go_ret2
          exact ⟨.inl ⟨_, need_ok HF.out HN.out HH.out, rfl⟩, SS.out⟩
  · have gA : ((F : Int) / 8 == 1) = false := by simp; omega
    have gA2 : ¬ (F : Int) / 8 = 1 := by omega
    go_wp2_with fail
    (with_reducible refine (get_at w.heap.size 10 12 12 rfl s w3 w0 I3.out S3.out HS.out (by have := H3.out; omega) (by omega)).mono ?_)
    rintro e w5 ⟨rfl, i5, s5⟩
    have SS := Lib.hid (HW.out.trans s5 (fun x hx hlt => by simp at hx; omega))
    have HH := Lib.hid (show ¬ ((F = 11 ∨ F = 15) ∧ 9 ≤ N ∧ N ≤ 4093) from fun hh => by omega)
    have hM : numFrom s 10 12 < 4096 := numFrom_lt s 10 12
    generalize numFrom s 10 12 = M at *
    clear i5 s5 I3 S3 gA
    go_wp2_with fail
    go_ret2
    exact ⟨.inr ⟨need_no HF.out HN.out HH.out, rfl⟩, SS.out⟩

end Go.Proofs.YtpkpfebhdgbgbaaGreatDoor.J
