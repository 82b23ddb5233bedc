/- The joiner's small parts, and the reference's: Check, lose, worse, Held, Lost, Drop, New, Plain, Need. Conditions: texts are not too long. How many bytes the section has that begins so (Need), in the program and in the reference; New, Plain. Conditions: the bytes are at least three, and fewer than 2^40. How many bytes the section has that begins so (section.Need). Conditions: the bytes are at least three, and fewer than 2^40. Taking bytes: the sections that are at their end (take), in the program. Conditions: the bytes are fewer than 2^40. The reference's check sum (that it does not fail), and the sections that are made of bodies. Conditions: the body has up to 4084 bytes. The reference's check sum, and the sections that are made of bodies: the same body gives the same bytes. Conditions: the body has up to 4084 bytes. -/
import Derived.Test.YtpkpfebhdgbgbaaGreatDoorBitsIn
import Derived.Test.YtpkpfebhdgbgbaaGreatDoorOpen
import Derived.Test.YtpkpfebhdgbgbaaGreatDoorJumps
import Derived.OwnWalk
import Derived.Laws.Closers25b
namespace Go.Proofs.YtpkpfebhdgbgbaaGreatDoor.J
open Go.RowKit
set_option linter.unusedSimpArgs false
set_option linter.unusedVariables false

theorem ret_bool {x y : Bool} (h : x = y) : Ending.returned (.bool x) = .returned (.bool y) := by rw [h]
theorem ret_int {k : IntKind} {x y : Int} (h : x = y) : Ending.returned (.int k x) = .returned (.int k y) := by rw [h]

/-- What is wrong with a packet. -/
def chkG (pid count : Int) (body : ByteArray) : Int := if pid < 0 ∨ 8192 ≤ pid ∨ count < 0 ∨ 15 < count then 15 else if 184 < body.size then 17 else 0
def NumPost (w : World) (n : Int) (e : Ending) (w' : World) : Prop := e = .returned (.int .i64 n) ∧ Same [] w w'

theorem chk_cases (pid count : Int) (body : ByteArray) :
    (pid < 0 ∧ chkG pid count body = 15) ∨ (0 ≤ pid ∧ 8192 ≤ pid ∧ chkG pid count body = 15) ∨ (0 ≤ pid ∧ pid < 8192 ∧ count < 0 ∧ chkG pid count body = 15) ∨ (0 ≤ pid ∧ pid < 8192 ∧ 0 ≤ count ∧ 15 < count ∧ chkG pid count body = 15) ∨
    (0 ≤ pid ∧ pid < 8192 ∧ 0 ≤ count ∧ count ≤ 15 ∧ (184 : Int) < (body.size : Int) ∧ chkG pid count body = 17) ∨ (0 ≤ pid ∧ pid < 8192 ∧ 0 ≤ count ∧ count ≤ 15 ∧ (body.size : Int) ≤ 184 ∧ chkG pid count body = 0) := by
  unfold chkG
  by_cases h1 : pid < 0
  · left; simp [h1]
  by_cases h2 : 8192 ≤ pid
  · right; left; simp [h2]; omega
  by_cases h3 : count < 0
  · right; right; left; simp [h3]; omega
  by_cases h4 : 15 < count
  · right; right; right; left; simp [h4]; omega
  have hn : ¬ (pid < 0 ∨ 8192 ≤ pid ∨ count < 0 ∨ 15 < count) := by omega
  by_cases h5 : 184 < body.size
  · right; right; right; right; left; rw [if_neg hn, if_pos h5]; refine ⟨by omega, by omega, by omega, by omega, by omega, rfl⟩
  · right; right; right; right; right; rw [if_neg hn, if_neg h5]; refine ⟨by omega, by omega, by omega, by omega, by omega, rfl⟩

theorem pcheck_any (pid : Int) (st : Bool) (count : Int) (bad : Bool) (body : ByteArray) (w : World) :
    Calls Tryz.prog 68 #[.agg #[.int .i64 pid, .bool st, .int .i64 count, .bool bad, .string body]] w (NumPost w (chkG pid count body)) := by
  rcases chk_cases pid count body with ⟨h1, he⟩ | ⟨h1, h2, he⟩ | ⟨h1, h2, h3, he⟩ | ⟨h1, h2, h3, h4, he⟩ | ⟨h1, h2, h3, h4, h5, he⟩ | ⟨h1, h2, h3, h4, h5, he⟩
  all_goals
    rw [he]
    clear he
    go_enter Tryz.func68, Tryz.ntmps68
    go_wp2
    go_ret
    exact ⟨rfl, (Same.refl _ w).alloc _⟩
def jV (pid : Int) (hold : ByteArray) (fol : Bool) (c : Int) (bd : ByteArray) (lost : Int) : Array Value := #[.int .i64 pid, .string hold, .bool fol, .int .i64 c, .string bd, .int .i64 lost]
def rV (pid : Int) (hold : ByteArray) (fol : Bool) (sn : Bool) (c : Int) (bd : ByteArray) (lost : Int) : Array Value := #[.int .i64 pid, .string hold, .bool fol, .bool sn, .int .i64 c, .string bd, .int .i64 lost]
/-- Block b is a joiner. -/
def IsJ (w : World) (b : Nat) (pid : Int) (hold : ByteArray) (fol : Bool) (c : Int) (bd : ByteArray) (lost : Int) : Prop := w.heap[b]? = some (.cells (jV pid hold fol c bd lost) 148 (0, 0))
theorem IsJ.cells {w : World} {b : Nat} {pid : Int} {hold : ByteArray} {fol : Bool} {c : Int} {bd : ByteArray} {lost : Int} (h : IsJ w b pid hold fol c bd lost) :
    (w.cell? ⟨b, 0, none⟩ = some (.int .i64 pid) ∧ w.cell? ⟨b, 1, none⟩ = some (.string hold) ∧ w.cell? ⟨b, 2, none⟩ = some (.bool fol) ∧ w.cell? ⟨b, 3, none⟩ = some (.int .i64 c) ∧ w.cell? ⟨b, 4, none⟩ = some (.string bd) ∧ w.cell? ⟨b, 5, none⟩ = some (.int .i64 lost)) ∧
    (w.frozen? ⟨b, 1, none⟩ = false ∧ w.frozen? ⟨b, 2, none⟩ = false ∧ w.frozen? ⟨b, 3, none⟩ = false ∧ w.frozen? ⟨b, 4, none⟩ = false ∧ w.frozen? ⟨b, 5, none⟩ = false) := by
  refine ⟨⟨?_, ?_, ?_, ?_, ?_, ?_⟩, ?_, ?_, ?_, ?_, ?_⟩
  all_goals first | exact (cell_of h _).trans rfl | exact free_of h _
theorem IsJ.same {A B : World} {b : Nat} {pid : Int} {hold : ByteArray} {fol : Bool} {c : Int} {bd : ByteArray} {lost : Int} {S : List Nat} (h : IsJ A b pid hold fol c bd lost) (hs : Same S A B) (hb : b ∉ S) : IsJ B b pid hold fol c bd lost := hs.heap h hb
theorem IsJ.set_hold {w : World} {b : Nat} {pid : Int} {hold : ByteArray} {fol : Bool} {c : Int} {bd : ByteArray} {lost : Int} (h : IsJ w b pid hold fol c bd lost) (s : ByteArray) : IsJ (w.setCell ⟨b, 1, none⟩ (.string s)) b pid s fol c bd lost := (set_same h _).trans rfl
theorem IsJ.set_fol {w : World} {b : Nat} {pid : Int} {hold : ByteArray} {fol : Bool} {c : Int} {bd : ByteArray} {lost : Int} (h : IsJ w b pid hold fol c bd lost) (s : Bool) : IsJ (w.setCell ⟨b, 2, none⟩ (.bool s)) b pid hold s c bd lost := (set_same h _).trans rfl
theorem IsJ.set_c {w : World} {b : Nat} {pid : Int} {hold : ByteArray} {fol : Bool} {c : Int} {bd : ByteArray} {lost : Int} (h : IsJ w b pid hold fol c bd lost) (s : Int) : IsJ (w.setCell ⟨b, 3, none⟩ (.int .i64 s)) b pid hold fol s bd lost := (set_same h _).trans rfl
theorem IsJ.set_bd {w : World} {b : Nat} {pid : Int} {hold : ByteArray} {fol : Bool} {c : Int} {bd : ByteArray} {lost : Int} (h : IsJ w b pid hold fol c bd lost) (s : ByteArray) : IsJ (w.setCell ⟨b, 4, none⟩ (.string s)) b pid hold fol c s lost := (set_same h _).trans rfl
theorem IsJ.set_lost {w : World} {b : Nat} {pid : Int} {hold : ByteArray} {fol : Bool} {c : Int} {bd : ByteArray} {lost : Int} (h : IsJ w b pid hold fol c bd lost) (s : Int) : IsJ (w.setCell ⟨b, 5, none⟩ (.int .i64 s)) b pid hold fol c bd s := (set_same h _).trans rfl
def JPost (w : World) (v : Value) (b : Nat) (pid : Int) (hold : ByteArray) (fol : Bool) (c : Int) (bd : ByteArray) (lost : Int) (e : Ending) (w' : World) : Prop := e = .returned v ∧ IsJ w' b pid hold fol c bd lost ∧ Same [b] w w'
theorem jlose_any {w : World} {b : Nat} {pid : Int} {hold : ByteArray} {fol : Bool} {c : Int} {bd : ByteArray} {lost : Int} (h : IsJ w b pid hold fol c bd lost) :
    Calls Tryz.prog 70 #[.pointer (some ⟨b, 0, none⟩)] w (JPost w (.tuple #[]) b pid ⟨#[]⟩ false c bd lost) := by
  obtain ⟨⟨c0, c1, c2, c3, c4, c5⟩, f1, f2, f3, f4, f5⟩ := h.cells
  have H := Lib.hid h
  clear h
  go_enter Tryz.func70, Tryz.ntmps70
  go_wp2
  go_end0
  exact ⟨rfl, (H.out.set_hold _).set_fol _, ((Same.refl [b] w).setCell (by simp) _).setCell (by simp) _⟩
def worseG (a b : Int) : Int := if a = 12 ∨ b = 0 then a else b
theorem worse_any (a b : Int) (w : World) : Calls Tryz.prog 73 #[.int .i64 a, .int .i64 b] w fun e w' => e = .returned (.int .i64 (worseG a b)) ∧ w = w' := by
  by_cases h1 : a = 12
  · subst h1
    go_enter Tryz.func73, Tryz.ntmps73
    go_wp2
    go_ret
    exact ⟨ret_int (by simp [worseG]), rfl⟩
  · have g1 : (a == 12) = false := by simpa using h1
    by_cases h2 : b = 0
    · subst h2
      go_enter Tryz.func73, Tryz.ntmps73
      go_wp2
      go_ret
      exact ⟨ret_int (by simp [worseG]), rfl⟩
    · have g2 : (b == 0) = false := by simpa using h2
      go_enter Tryz.func73, Tryz.ntmps73
      go_wp2
      go_ret
      exact ⟨ret_int (by simp [worseG, h1, h2]), rfl⟩

theorem drop_any {w : World} {b : Nat} {pid : Int} {hold : ByteArray} {fol : Bool} {c : Int} {bd : ByteArray} {lost : Int} (h : IsJ w b pid hold fol c bd lost) :
    Calls Tryz.prog 69 #[.pointer (some ⟨b, 0, none⟩)] w (JPost w (.tuple #[]) b pid ⟨#[]⟩ false 0 ⟨#[]⟩ lost) := by
  have H := Lib.hid (jlose_any h)
  clear h
  go_enter Tryz.func69, Tryz.ntmps69
  go_wp2_with fail
  (with_reducible refine H.out.mono ?_)
  rintro e w1 ⟨rfl, hj, hs⟩
  obtain ⟨⟨c0, c1, c2, c3, c4, c5⟩, f1, f2, f3, f4, f5⟩ := hj.cells
  have HJ := Lib.hid hj; have HS := Lib.hid hs
  clear hj hs H
  go_wp2_with fail
  go_end0
  exact ⟨rfl, (HJ.out.set_c _).set_bd _, (HS.out.setCell (by simp) _).setCell (by simp) _⟩

end Go.Proofs.YtpkpfebhdgbgbaaGreatDoor.J
namespace Go.Proofs.YtpkpfebhdgbgbaaGreatDoor.J
open Go.RowKit
set_option linter.unusedSimpArgs false
set_option linter.unusedVariables false

/-- How many bytes the section has that begins so. -/
def needG (s : ByteArray) : Option Nat :=
  if (byteOf s 1 / 16 = 11 ∨ byteOf s 1 / 16 = 15) ∧ 9 ≤ byteOf s 1 % 16 * 256 + byteOf s 2 ∧ byteOf s 1 % 16 * 256 + byteOf s 2 ≤ 4093 then some (byteOf s 1 % 16 * 256 + byteOf s 2 + 3) else none
theorem byteOf_lt (s : ByteArray) (i : Nat) : byteOf s i < 256 := UInt8.toNat_lt _

def NeedPost (w : World) (s : ByteArray) (e : Ending) (w' : World) : Prop :=
  ((∃ n, needG s = some n ∧ e = .returned (.tuple #[.int .i64 n, .int .i64 0])) ∨ (needG s = none ∧ e = .returned (.tuple #[.int .i64 0, .int .i64 12]))) ∧ Same [] w w'

theorem bread_any (s : ByteArray) (w : World) : Calls Tryz.prog 129 #[.string s] w fun e w' => e = .returned (.pointer (some ⟨w.heap.size, 0, none⟩)) ∧ w.alloc (.cells #[.int .i64 0, .int .i64 0, .string s] 258) = w' := by
  go_enter Tryz.func129, Tryz.ntmps129
  go_wp2
  go_ret
  exact ⟨rfl, rfl⟩

theorem num_8_1 (s : ByteArray) : numFrom s 8 1 = byteOf s 1 / 128 := by
  have := byteOf_lt s 1
  simp [numFrom, strBit]; omega
theorem num_10_2 (s : ByteArray) : numFrom s 10 2 = byteOf s 1 / 16 % 4 := by
  have := byteOf_lt s 1
  simp [numFrom, strBit]; omega
theorem num_12_12 (s : ByteArray) : numFrom s 12 12 = byteOf s 1 % 16 * 256 + byteOf s 2 := by
  have := byteOf_lt s 1; have := byteOf_lt s 2
  simp [numFrom, strBit]; omega

theorem need_ok {s : ByteArray} {F N : Nat} (hF : byteOf s 1 / 16 = F) (hN : byteOf s 1 % 16 * 256 + byteOf s 2 = N) (h : (F = 11 ∨ F = 15) ∧ 9 ≤ N ∧ N ≤ 4093) : needG s = some (N + 3) := by
  unfold needG; rw [hF, hN, if_pos h]
theorem need_no {s : ByteArray} {F N : Nat} (hF : byteOf s 1 / 16 = F) (hN : byteOf s 1 % 16 * 256 + byteOf s 2 = N) (h : ¬ ((F = 11 ∨ F = 15) ∧ 9 ≤ N ∧ N ≤ 4093)) : needG s = none := by
  unfold needG; rw [hF, hN, if_neg h]
theorem need_cases (F N : Nat) (hF : F < 16) (hN : N < 4096) :
    (((F : Int) != 11) = true ∧ ((F : Int) != 15) = true ∧ ¬ ((F = 11 ∨ F = 15) ∧ 9 ≤ N ∧ N ≤ 4093)) ∨
    (((F : Int) != 11) = false ∧ (N : Int) < 9 ∧ ¬ ((F = 11 ∨ F = 15) ∧ 9 ≤ N ∧ N ≤ 4093)) ∨ (((F : Int) != 11) = true ∧ ((F : Int) != 15) = false ∧ (N : Int) < 9 ∧ ¬ ((F = 11 ∨ F = 15) ∧ 9 ≤ N ∧ N ≤ 4093)) ∨
    (((F : Int) != 11) = false ∧ ¬ (N : Int) < 9 ∧ (4093 : Int) < N ∧ ¬ ((F = 11 ∨ F = 15) ∧ 9 ≤ N ∧ N ≤ 4093)) ∨ (((F : Int) != 11) = true ∧ ((F : Int) != 15) = false ∧ ¬ (N : Int) < 9 ∧ (4093 : Int) < N ∧ ¬ ((F = 11 ∨ F = 15) ∧ 9 ≤ N ∧ N ≤ 4093)) ∨
    (((F : Int) != 11) = false ∧ ¬ (N : Int) < 9 ∧ ¬ (4093 : Int) < N ∧ (F = 11 ∨ F = 15) ∧ 9 ≤ N ∧ N ≤ 4093) ∨ (((F : Int) != 11) = true ∧ ((F : Int) != 15) = false ∧ ¬ (N : Int) < 9 ∧ ¬ (4093 : Int) < N ∧ (F = 11 ∨ F = 15) ∧ 9 ≤ N ∧ N ≤ 4093) := by
  simp only [bne_iff_ne, bne_eq_false_iff_eq, ne_eq]; omega

end Go.Proofs.YtpkpfebhdgbgbaaGreatDoor.J
namespace Go.Proofs.YtpkpfebhdgbgbaaGreatDoor.J
open Go.RowKit
set_option linter.unusedSimpArgs false
set_option linter.unusedVariables false

theorem isIn_new (w : World) (s : ByteArray) : IsIn (w.alloc (.cells #[.int .i64 0, .int .i64 0, .string s] 258)) w.heap.size 0 0 s := heap_alloc_new w _

theorem get_at (b p n : Nat) (m : Int) (hm : (n : Int) = m) (s : ByteArray) (w w0 : World) (h : IsIn w b p 0 s) (hw : Same [b] w0 w) (hs : s.size < 1099511627776) (hp : p + n ≤ 8 * s.size) (hn : n ≤ 64) :
    Calls Tryz.prog 130 #[.pointer (some ⟨b, 0, none⟩),   .int .i64 m] w (GetPost w0 b (p + n) 0 s (numFrom s p n)) :=
  hm ▸ (get_ok b p n s w h hs hp hn).mono fun e w' ⟨h1, h2, h3⟩ => ⟨h1, h2, hw.trans h3 (fun x hx _ => hx)⟩

set_option maxHeartbeats 2000000 in
theorem sneed_any (s : ByteArray) (w : World) (h : 3 ≤ s.size) (hs : s.size < 1099511627776) : Calls Tryz.prog 100 #[.string s] w (NeedPost w s) := by
  have h1 := byteOf_lt s 1; have h2 := byteOf_lt s 2
  have hj3 : ¬ (s.size : Int) < 3 := by omega
  obtain ⟨F, hF⟩ : ∃ F, byteOf s 1 / 16 = F := ⟨_, rfl⟩
  obtain ⟨N, hN⟩ : ∃ N, byteOf s 1 % 16 * 256 + byteOf s 2 = N := ⟨_, rfl⟩
  have e1 : numFrom s 8 1 = F / 8 := by rw [num_8_1]; omega
  have e2 : numFrom s 10 2 = F % 4 := by rw [num_10_2]; omega
  have e3 : numFrom s 12 12 = N := by rw [num_12_12]; omega
  have hF16 : F < 16 := by omega
  have hN16 : N < 4096 := by omega
  have E1 := Lib.hid e1; have E2 := Lib.hid e2; have E3 := Lib.hid e3; have HF := Lib.hid hF; have HN := Lib.hid hN; have HS := Lib.hid hs; have H3 := Lib.hid h
  clear e1 e2 e3 hF hN h1 h2 hs h
  go_enter Tryz.func100, Tryz.ntmps100
  go_wp2_with fail
  (with_reducible refine (bread_any _ _).mono ?_)
  rintro e w1 ⟨rfl, rfl⟩
  have hi := isIn_new w s
  have hsm : Same [] w (w.alloc (.cells #[.int .i64 0, .int .i64 0, .string s] 258)) := (Same.refl [] w).alloc _
  generalize w.alloc (.cells #[.int .i64 0, .int .i64 0, .string s] 258) = w0 at *
  have HI := Lib.hid hi; have HW := Lib.hid hsm
  clear hi hsm
  go_wp2_with fail
  (with_reducible refine (get_at w.heap.size 0 8 8 rfl s w0 w0 HI.out (Same.refl _ _) HS.out (by have := H3.out; omega) (by omega)).mono ?_)
  rintro e w1 ⟨rfl, i1, s1⟩
  have I1 := Lib.hid i1; have S1 := Lib.hid s1
  clear i1 s1 HI
  go_wp2_with fail
  (with_reducible refine (get_at w.heap.size 8 1 1 rfl s w1 w0 I1.out S1.out HS.out (by have := H3.out; omega) (by omega)).mono ?_)
  rintro e w2 ⟨rfl, i2, s2⟩
  rw [E1.out]
  have I2 := Lib.hid i2; have S2 := Lib.hid s2
  clear i2 s2 I1 S1
  go_wp2_with fail
  (with_reducible refine (get_at w.heap.size 9 1 1 rfl s w2 w0 I2.out S2.out HS.out (by have := H3.out; omega) (by omega)).mono ?_)
  rintro e w3 ⟨rfl, i3, s3⟩
  have I3 := Lib.hid i3; have S3 := Lib.hid s3
  clear i3 s3 I2 S2
  by_cases hA : F / 8 = 1
  · have gA : ((F : Int) / 8 == 1) = true := by simp; omega
    have gA2 : (F : Int) / 8 = 1 := by omega
    go_wp2_with fail
    (with_reducible refine (get_at w.heap.size 10 2 2 rfl s w3 w0 I3.out S3.out HS.out (by have := H3.out; omega) (by omega)).mono ?_)
    rintro e w4 ⟨rfl, i4, s4⟩
    rw [E2.out]
    have I4 := Lib.hid i4; have S4 := Lib.hid s4
    clear i4 s4 I3 S3
    by_cases hq3 : F % 4 = 3
    case neg =>
      have gq : ((F : Int) % 4 == 3) = false := by simp; omega
      have gq2 : ¬ (F : Int) % 4 = 3 := by omega
      go_wp2_with fail
      (with_reducible refine (get_at w.heap.size 12 12 12 rfl s w4 w0 I4.out S4.out HS.out (by have := H3.out; omega) (by omega)).mono ?_)
      rintro e w5 ⟨rfl, i5, s5⟩
      rw [E3.out]
      have SS := Lib.hid (HW.out.trans s5 (fun x hx hlt => by simp at hx; omega))
      clear i5 s5 I4 S4 gA
      have HH := Lib.hid (show ¬ ((F = 11 ∨ F = 15) ∧ 9 ≤ N ∧ N ≤ 4093) from fun hh => by omega)
      go_wp2_with fail
      go_ret2
      exact ⟨.inr ⟨need_no HF.out HN.out HH.out, rfl⟩, SS.out⟩
    case pos =>
      have gq : ((F : Int) % 4 == 3) = true := by simp; omega
      have gq2 : (F : Int) % 4 = 3 := by omega
      go_wp2_with fail
      (with_reducible refine (get_at w.heap.size 12 12 12 rfl s w4 w0 I4.out S4.out HS.out (by have := H3.out; omega) (by omega)).mono ?_)
      rintro e w5 ⟨rfl, i5, s5⟩
      rw [E3.out]
      have SS := Lib.hid (HW.out.trans s5 (fun x hx hlt => by simp at hx; omega))
      clear i5 s5 I4 S4 gA
      have hA2 : 8 ≤ F := by omega
      by_cases g9 : (N : Int) < 9
      · have HH := Lib.hid (show ¬ ((F = 11 ∨ F = 15) ∧ 9 ≤ N ∧ N ≤ 4093) from fun hh => by omega)
        go_wp2_with fail
        go_ret2
        exact ⟨.inr ⟨need_no HF.out HN.out HH.out, rfl⟩, SS.out⟩
      · by_cases g10 : (4093 : Int) < N
        · have HH := Lib.hid (show ¬ ((F = 11 ∨ F = 15) ∧ 9 ≤ N ∧ N ≤ 4093) from fun hh => by omega)
          go_wp2_with fail
          go_ret2
          exact ⟨.inr ⟨need_no HF.out HN.out HH.out, rfl⟩, SS.out⟩
        · have HH := Lib.hid (show (F = 11 ∨ F = 15) ∧ 9 ≤ N ∧ N ≤ 4093 from ⟨by omega, by omega, by omega⟩)
          go_wp2_with fail
          go_ret2
          exact ⟨.inl ⟨_, need_ok HF.out HN.out HH.out, rfl⟩, SS.out⟩
  · have gA : ((F : Int) / 8 == 1) = false := by simp; omega
    have gA2 : ¬ (F : Int) / 8 = 1 := by omega
    go_wp2_with fail
    (with_reducible refine (get_at w.heap.size 10 12 12 rfl s w3 w0 I3.out S3.out HS.out (by have := H3.out; omega) (by omega)).mono ?_)
    rintro e w5 ⟨rfl, i5, s5⟩
    have SS := Lib.hid (HW.out.trans s5 (fun x hx hlt => by simp at hx; omega))
    have HH := Lib.hid (show ¬ ((F = 11 ∨ F = 15) ∧ 9 ≤ N ∧ N ≤ 4093) from fun hh => by omega)
    have hM : numFrom s 10 12 < 4096 := numFrom_lt s 10 12
    generalize numFrom s 10 12 = M at *
    clear i5 s5 I3 S3 gA
    go_wp2_with fail
    go_ret2
    exact ⟨.inr ⟨need_no HF.out HN.out HH.out, rfl⟩, SS.out⟩

end Go.Proofs.YtpkpfebhdgbgbaaGreatDoor.J
namespace Go.Proofs.YtpkpfebhdgbgbaaGreatDoor.J
open Go.RowKit
set_option linter.unusedSimpArgs false
set_option linter.unusedVariables false

/-- What taking bytes answers: the sections, what is held, whether all was let go, whether all was right. -/
structure Tk where
  outs : List ByteArray
  hold : ByteArray
  lose : Bool
  ok : Bool
def takeG : Nat → ByteArray → Tk
  | 0, h => ⟨[], h, false, true⟩
  | k + 1, h =>
    if h.size = 0 then ⟨[], h, false, true⟩
    else if byteOf h 0 = 255 then ⟨[], ⟨#[]⟩, true, true⟩
    else if h.size < 3 then ⟨[], h, false, true⟩
    else match needG h with
      | none => ⟨[], ⟨#[]⟩, true, false⟩
      | some n => if h.size < n then ⟨[], h, false, true⟩ else
        let r := takeG k (h.extract n h.size)
        ⟨h.extract 0 n :: r.outs, r.hold, r.lose, r.ok⟩
def pre (L : List ByteArray) (r : Tk) : Tk := ⟨L ++ r.outs, r.hold, r.lose, r.ok⟩
theorem pre_nil (r : Tk) : pre [] r = r := rfl
theorem pre_snoc (L : List ByteArray) (p : ByteArray) (r : Tk) : pre L ⟨p :: r.outs, r.hold, r.lose, r.ok⟩ = pre (L ++ [p]) r := by simp [pre]

theorem take_none (k : Nat) {h : ByteArray} (h0 : h.size = 0) : takeG k h = ⟨[], h, false, true⟩ := by
  cases k with
  | zero => rfl
  | succ k => rw [takeG, if_pos h0]
theorem take_stuff {k : Nat} {h : ByteArray} (hk : h.size ≤ k) (h0 : h.size ≠ 0) (h1 : byteOf h 0 = 255) : takeG k h = ⟨[], ⟨#[]⟩, true, true⟩ := by
  cases k with
  | zero => omega
  | succ k => rw [takeG, if_neg h0, if_pos h1]
theorem take_few {k : Nat} {h : ByteArray} (hk : h.size ≤ k) (h0 : h.size ≠ 0) (h1 : byteOf h 0 ≠ 255) (h2 : h.size < 3) : takeG k h = ⟨[], h, false, true⟩ := by
  cases k with
  | zero => omega
  | succ k => rw [takeG, if_neg h0, if_neg h1, if_pos h2]
theorem take_bad {k : Nat} {h : ByteArray} (hk : h.size ≤ k) (h0 : h.size ≠ 0) (h1 : byteOf h 0 ≠ 255) (h2 : ¬ h.size < 3) (h3 : needG h = none) : takeG k h = ⟨[], ⟨#[]⟩, true, false⟩ := by
  cases k with
  | zero => omega
  | succ k => rw [takeG, if_neg h0, if_neg h1, if_neg h2, h3]
theorem take_part {k : Nat} {h : ByteArray} {n : Nat} (hk : h.size ≤ k) (h0 : h.size ≠ 0) (h1 : byteOf h 0 ≠ 255) (h2 : ¬ h.size < 3) (h3 : needG h = some n) (h4 : h.size < n) : takeG k h = ⟨[], h, false, true⟩ := by
  cases k with
  | zero => omega
  | succ k => rw [takeG, if_neg h0, if_neg h1, if_neg h2, h3]; simp only; rw [if_pos h4]
theorem take_more {k : Nat} {h : ByteArray} {n : Nat} (h0 : h.size ≠ 0) (h1 : byteOf h 0 ≠ 255) (h2 : ¬ h.size < 3) (h3 : needG h = some n) (h4 : ¬ h.size < n) :
    takeG (k + 1) h = ⟨h.extract 0 n :: (takeG k (h.extract n h.size)).outs, (takeG k (h.extract n h.size)).hold, (takeG k (h.extract n h.size)).lose, (takeG k (h.extract n h.size)).ok⟩ := by
  rw [takeG, if_neg h0, if_neg h1, if_neg h2, h3]; simp only; rw [if_neg h4]
theorem need_ge {h : ByteArray} {n : Nat} (hn : needG h = some n) : 12 ≤ n ∧ n ≤ 4096 := by
  unfold needG at hn
  split at hn
  · rename_i hh
    rw [Option.some.injEq] at hn; omega
  · cases hn

def strVals (L : List ByteArray) : List Value := L.map Value.string
theorem one_strs (L : List ByteArray) : ∀ u ∈ strVals L, u.oneCell' = true := by
  intro u hu
  simp [strVals] at hu
  obtain ⟨_, _, rfl⟩ := hu
  rfl
theorem Tryz.infoS : (Tryz.prog.info? 9).map (fun i => (i.zero, i.size, i.bytes)) = some (some (.string ByteArray.empty), 1, 16) := by kernel_rfl
theorem size_extract (s : ByteArray) (a b : Nat) (h1 : a ≤ b) (h2 : b ≤ s.size) : (s.extract a b).size = b - a := by rw [ByteArray.size_extract]; omega
theorem empty_of {s : ByteArray} (h : s.size = 0) : s = ⟨#[]⟩ := by
  obtain ⟨⟨l⟩⟩ := s
  have : l = [] := List.eq_nil_of_length_eq_zero (by simpa [ByteArray.size] using h)
  subst this; rfl
theorem nonempty (s : ByteArray) (h : 0 < s.size) : s.toList.isEmpty = false ∧ (!s.toList.isEmpty) = true := by
  have : s.toList ≠ [] := by
    intro h0
    rw [ByteArray.toList_eq] at h0
    have h1 := congrArg List.length h0
    rw [Array.length_toList] at h1
    exact absurd (show s.size = 0 from h1) (by omega)
  cases hl : s.toList with
  | nil => exact absurd hl this
  | cons a b => simp

/-- The new strings that a call has made. -/
def NewStrs (w w' : World) (v : Value) (L : List ByteArray) : Prop := w'.ownsRow 0 9 1 v L.length (strVals L) ∧ ∀ k, v.ownBlock = some k → w.heap.size ≤ k

def TakePost (w : World) (b : Nat) (pid : Int) (fol : Bool) (c : Int) (bd : ByteArray) (lost : Int) (r : Tk) (e : Ending) (w' : World) : Prop :=
  ∃ v, e = .returned (.tuple #[v, .int .i64 (if r.ok then 0 else 12)]) ∧ NewStrs w w' v r.outs ∧ IsJ w' b pid r.hold (!r.lose && fol) c bd lost ∧ Same [b] w w'

def holdAt (w : World) (b : Nat) : Nat := match w.cell? ⟨b, 1, none⟩ with | some (.string r) => r.size | _ => 0

theorem holdAt_eq {w : World} {b : Nat} {pid : Int} {hold : ByteArray} {fol : Bool} {c : Int} {bd : ByteArray} {lost : Int} (h : IsJ w b pid hold fol c bd lost) : holdAt w b = hold.size := by unfold holdAt; rw [h.cells.1.2.1]

def takeJ (w : World) (b : Nat) (pid : Int) (fol : Bool) (c : Int) (bd : ByteArray) (lost : Int) (H : ByteArray) (a : Act) (w' : World) : Prop :=
  ∃ (k : Nat) (L : List ByteArray) (h : ByteArray) (v : Value) (u1 u2 u3 u6 u7 u8 u9 u10 u11 u12 u13 u14 u15 u16 u17 u18 u19 u20 u21 u22 u23 u24 u25 u26 u27 u28 u29 u30 u31 u32 u33 u34 u35 u36 u37 u38 u39 u40 u41 u42 u43 u44 u45 u46 u47 u48 u49 u50 u51 u52 u53 u54 u55 u56 u57 u58 u59 u60 u61 u62 u63 u64 u65 u66 u67 u68 u69 u70 u71 u72 u73 u74 u75 u76 u77 u78 u79 u80 : Value), h.size ≤ k ∧ h.size ≤ H.size ∧ L.length + h.size ≤ H.size ∧ takeG H.size H = pre L (takeG k h) ∧
    NewStrs w w' v L ∧ IsJ w' b pid h fol c bd lost ∧ Same [b] w w' ∧ a = { tmps := #[.pointer (some ⟨b, 0, none⟩), u1, u2, u3, v, .int .i64 0, u6, u7, u8, u9, u10, u11, u12, u13, u14, u15, u16, u17, u18, u19, u20, u21, u22, u23, u24, u25, u26, u27, u28, u29, u30, u31, u32, u33, u34, u35, u36, u37, u38, u39, u40, u41, u42, u43, u44, u45, u46, u47, u48, u49, u50, u51, u52, u53, u54, u55, u56, u57, u58, u59, u60, u61, u62, u63, u64, u65, u66, u67, u68, u69, u70, u71, u72, u73, u74, u75, u76, u77, u78, u79, u80], defers := [] }

set_option maxRecDepth 100000 in
set_option maxHeartbeats 4000000 in
theorem jtake_any {w : World} {b : Nat} {pid : Int} {hold : ByteArray} {fol : Bool} {c : Int} {bd : ByteArray} {lost : Int} (s : ByteArray) (hj : IsJ w b pid hold fol c bd lost) (hz : hold.size + s.size < 1099511627776) :
    Calls Tryz.prog 72 #[.pointer (some ⟨b, 0, none⟩), .string s] w (TakePost w b pid fol c bd lost (takeG (hold ++ s).size (hold ++ s))) := by
  obtain ⟨i0, hi, hz0, hz1, hz2⟩ := info_parts Tryz.infoS
  obtain ⟨⟨c0, c1, c2, c3, c4, c5⟩, f1, f2, f3, f4, f5⟩ := hj.cells
  have hb := heap_lt hj
  have hsz : (hold ++ s).size = hold.size + s.size := ByteArray.size_append
  have HZ := Lib.hid (show (hold ++ s).size < 1099511627776 by omega)
  have hj2 := hj.set_hold (hold ++ s)
  have hs2 : Same [b] w (w.setCell ⟨b, 1, none⟩ (.string (hold ++ s))) := (Same.refl [b] w).setCell (by simp) _
  have HJ := Lib.hid hj2; have HS := Lib.hid hs2
  clear hj hj2 hs2 hsz
  go_enter Tryz.func72, Tryz.ntmps72
  go_wp2
  refine wp_scope_one 0 (takeJ w b pid fol c bd lost (hold ++ s)) (fun _ w => holdAt w b) rfl ?_ ?_
  · simp only [wpAll]
    go_wp2_with fail
    exact ⟨(hold ++ s).size, [], hold ++ s, .slice none 0 0, _, _, _, _, _, _, _, _, _, _, _, _, _, _, _, _, _, _, _, _, _, _, _, _, _, _, _, _, _, _, _, _, _, _, _, _, _, _, _, _, _, _, _, _, _, _, _, _, _, _, _, _, _, _, _, _, _, _, _, _, _, _, _, _, _, _, _, _, _, _, _, _, _, _, _, _, _, _, Nat.le_refl _, Nat.le_refl _, by simp, (pre_nil _).symm, ⟨World.ownsRow_nil _ _ _ _, fun k hk => (by cases hk)⟩, HJ.out, HS.out, rfl⟩
  · rintro a w1 ⟨k, L, h, v, u1, u2, u3, u6, u7, u8, u9, u10, u11, u12, u13, u14, u15, u16, u17, u18, u19, u20, u21, u22, u23, u24, u25, u26, u27, u28, u29, u30, u31, u32, u33, u34, u35, u36, u37, u38, u39, u40, u41, u42, u43, u44, u45, u46, u47, u48, u49, u50, u51, u52, u53, u54, u55, u56, u57, u58, u59, u60, u61, u62, u63, u64, u65, u66, u67, u68, u69, u70, u71, u72, u73, u74, u75, u76, u77, u78, u79, u80, hk, hR0, hLR, hinv, hown, hj, hsm, rfl⟩
    have HI := Lib.hid hinv; have HO := Lib.hid hown; have HJ2 := Lib.hid hj; have HS2 := Lib.hid hsm
    obtain ⟨⟨d0, d1, d2, d3, d4, d5⟩, g1, g2, g3, g4, g5⟩ := hj.cells
    have hlt := heap_lt hj
    clear hinv hown hj hsm c0 c1 c2 c3 c4 c5 f1 f2 f3 f4 f5 HJ HS
    by_cases h0 : h.size = 0
    · have hres : takeG (hold ++ s).size (hold ++ s) = ⟨L, h, false, true⟩ := by
        rw [HI.out, take_none k h0]; simp [pre]
      obtain rfl : h = ⟨#[]⟩ := empty_of h0
      have HRS := Lib.hid hres
      clear hres h0 HI
      go_wp2_with fail
      simp only [jump1]
      go_ret2
      exact ⟨v, by rw [HRS.out]; rfl, by rw [HRS.out]; exact HO.out, by rw [HRS.out]; simpa using HJ2.out, HS2.out⟩
    · obtain ⟨n1, n2⟩ := nonempty h (by omega)
      have hpos : 0 < h.size := by omega
      have hpos2 : (0 : Int) < (h.size : Int) := by omega
      have hb0 := byteOf_at h 0 hpos
      have hbl := byteOf_lt h 0
      by_cases h1 : byteOf h 0 = 255
      · have hres : takeG (hold ++ s).size (hold ++ s) = ⟨L, ⟨#[]⟩, true, true⟩ := by
          rw [HI.out, take_stuff hk h0 h1]; simp [pre]
        have HRS := Lib.hid hres
        rw [h1] at hb0
        clear hres h0 HI
        have HL := Lib.hid (jlose_any HJ2.out)
        go_wp2_with fail
        (with_reducible refine HL.out.mono ?_)
        rintro e w2 ⟨rfl, j2, s2⟩
        have J2 := Lib.hid j2; have S2 := Lib.hid s2
        have hno : NewStrs w w2 v L := ⟨own_same HO.out.1 s2 (fun x hx hm => by have := HO.out.2 x hx; simp at hm; omega), HO.out.2⟩
        have HNO := Lib.hid hno
        clear j2 s2 HL hno
        go_wp2_with fail
        simp only [jump1]
        go_ret2
        exact ⟨v, by rw [HRS.out]; rfl, by rw [HRS.out]; exact HNO.out, by rw [HRS.out]; simpa using J2.out, HS2.out.trans S2.out (fun x hx _ => hx)⟩
      · have hne : ¬ ((byteOf h 0 : Nat) : Int) = 255 := by omega
        have hneb : (((byteOf h 0 : Nat) : Int) == 255) = false := by simp; omega
        by_cases h2 : h.size < 3
        · have hres : takeG (hold ++ s).size (hold ++ s) = ⟨L, h, false, true⟩ := by
            rw [HI.out, take_few hk h0 h1 h2]; simp [pre]
          have HRS := Lib.hid hres
          have h2i : (h.size : Int) < 3 := by omega
          clear hres h0 HI
          go_wp2_with fail
          simp only [jump1]
          go_ret2
          exact ⟨v, by rw [HRS.out]; rfl, by rw [HRS.out]; exact HO.out, by rw [HRS.out]; simpa using HJ2.out, HS2.out⟩
        · have h2i : ¬ (h.size : Int) < 3 := by omega
          have hnd := fun W => sneed_any h W (by omega) (by have := HZ.out; omega)
          have HN := Lib.hid hnd
          clear hnd
          cases hn : needG h with
          | none =>
            have hres : takeG (hold ++ s).size (hold ++ s) = ⟨L, ⟨#[]⟩, true, false⟩ := by
              rw [HI.out, take_bad hk h0 h1 h2 hn]; simp [pre]
            have HRS := Lib.hid hres
            have HNN := Lib.hid hn
            clear hres h0 HI hn
            go_wp2_with fail
            (with_reducible refine (HN.out _).mono ?_)
            rintro e w2 ⟨⟨n, hnn, _⟩ | ⟨_, rfl⟩, s2⟩
            · rw [HNN.out] at hnn; cases hnn
            have J2 := Lib.hid (HJ2.out.same s2 (by simp)); have S2 := Lib.hid s2
            have HL := Lib.hid (jlose_any J2.out)
            clear s2 HN
            go_wp2_with fail
            (with_reducible refine HL.out.mono ?_)
            rintro e w3 ⟨rfl, j3, s3⟩
            have J3 := Lib.hid j3; have S3 := Lib.hid s3
            have hno : NewStrs w w3 v L := ⟨own_same (own_same HO.out.1 S2.out (by simp)) s3 (fun x hx hm => by have := HO.out.2 x hx; simp at hm; omega), HO.out.2⟩
            have HNO := Lib.hid hno
            clear j3 s3 HL hno
            go_wp2_with fail
            simp only [jump1]
            go_ret2
            exact ⟨v, by rw [HRS.out]; rfl, by rw [HRS.out]; exact HNO.out, by rw [HRS.out]; simpa using J3.out, (HS2.out.trans_nil S2.out).trans S3.out (fun x hx _ => hx)⟩
          | some n =>
            obtain ⟨nn1, nn2⟩ := need_ge hn
            have HNN := Lib.hid hn
            by_cases h4 : h.size < n
            · have hres : takeG (hold ++ s).size (hold ++ s) = ⟨L, h, false, true⟩ := by
                rw [HI.out, take_part hk h0 h1 h2 hn h4]; simp [pre]
              have HRS := Lib.hid hres
              have h4i : (h.size : Int) < (n : Int) := by omega
              clear hres h0 HI hn
              go_wp2_with fail
              (with_reducible refine (HN.out _).mono ?_)
              rintro e w2 ⟨⟨n', hnn, rfl⟩ | ⟨hnn, _⟩, s2⟩
              rotate_left
              · rw [HNN.out] at hnn; cases hnn
              rw [HNN.out, Option.some.injEq] at hnn
              subst hnn
              have J2 := Lib.hid (HJ2.out.same s2 (by simp)); have S2 := Lib.hid s2
              clear d0 d1 d2 d3 d4 d5 g1 g2 g3 g4 g5
              obtain ⟨⟨d0, d1, d2, d3, d4, d5⟩, g1, g2, g3, g4, g5⟩ := J2.out.cells
              clear s2 HN
              go_wp2_with fail
              simp only [jump1]
              go_ret2
              exact ⟨v, by rw [HRS.out]; rfl, by rw [HRS.out]; exact ⟨own_same HO.out.1 S2.out (by simp), HO.out.2⟩, by rw [HRS.out]; simpa using J2.out, HS2.out.trans_nil S2.out⟩
            · obtain ⟨k', rfl⟩ : ∃ k', k = k' + 1 := ⟨k - 1, by omega⟩
              have hnxt : takeG (hold ++ s).size (hold ++ s) = pre (L ++ [h.extract 0 n]) (takeG k' (h.extract n h.size)) := by
                rw [HI.out, take_more h0 h1 h2 hn h4, pre_snoc]
              have HNX := Lib.hid hnxt
              have h4i : ¬ (h.size : Int) < (n : Int) := by omega
              have h4j : (n : Int) ≤ (h.size : Int) := by omega
              have hx1 := size_extract h 0 n (by omega) (by omega)
              have hx2 := size_extract h n h.size (by omega) (by omega)
              have HX1 := Lib.hid hx1; have HX2 := Lib.hid hx2
              clear hnxt h0 HI hn hx1 hx2
              go_wp2_with fail
              (with_reducible refine (HN.out _).mono ?_)
              rintro e w2 ⟨⟨n', hnn, rfl⟩ | ⟨hnn, _⟩, s2⟩
              rotate_left
              · rw [HNN.out] at hnn; cases hnn
              rw [HNN.out, Option.some.injEq] at hnn
              subst hnn
              have J2 := Lib.hid (HJ2.out.same s2 (by simp)); have S2 := Lib.hid s2
              have HO2 := Lib.hid (own_same HO.out.1 s2 (by simp))
              clear d0 d1 d2 d3 d4 d5 g1 g2 g3 g4 g5
              obtain ⟨⟨d0, d1, d2, d3, d4, d5⟩, g1, g2, g3, g4, g5⟩ := J2.out.cells
              clear s2 HN
              go_wp2_with (first
                | (at_builtin; refine wpList_append_src rfl (.tmp 63) (.tmp 70) 74 rfl 0 9 i0 (.string ByteArray.empty) 1 16 Tryz.underlying74 hi hz0 hz1 hz2 rfl (by decide) v L.length (strVals L) rfl (by exact (HO2.out.alloc _)) _ 1 [.string (h.extract 0 n)] rfl (by exact Reads.of_own (row_new w2 #[.string (h.extract 0 n)] 9 1 rfl (by decide))) (by intro u hu; simp at hu; subst hu; rfl) (by have := HZ.out; unfold maxLen; omega) (by have := HZ.out; omega) (by simp) ?_; intro v' w4 hown hgrow hat; have J4 := Lib.hid ((J2.out.same ((Same.refl [] w2).alloc (.cells #[.string (h.extract 0 n)] 9)) (by simp)).same (Same.of_grown hgrow) (fun hm => by have := HO.out.2 b (by simpa using hm); omega)); clear d0 d1 d2 d3 d4 d5 g1 g2 g3 g4 g5; obtain ⟨⟨d0, d1, d2, d3, d4, d5⟩, g1, g2, g3, g4, g5⟩ := J4.out.cells; have HOWN := Lib.hid hown; have HG := Lib.hid hgrow; have HAT := Lib.hid hat; clear hown hgrow hat)
                | go_in)
              go_step3
              have hsz2 := S2.out.size
              have hsz1 := HS2.out.size
              have hfr : ∀ x, v'.ownBlock = some x → w.heap.size ≤ x := fun x hx => by
                rcases HAT.out with e | e
                · rw [e] at hx; exact HO.out.2 x hx
                · rw [e] at hx; cases hx; simp only [World.size_alloc]; omega
              have hrow := own_same (S := [b]) HOWN.out ((Same.refl [b] w4).setCell (p := ⟨b, 1, none⟩) (by simp) (.string (h.extract n h.size))) (fun x hx hm => by have := hfr x hx; simp at hm; omega)
              refine ⟨rfl, ⟨k', L ++ [h.extract 0 n], h.extract n h.size, v', _, _, _, _, _, _, _, _, _, _, _, _, _, _, _, _, _, _, _, _, _, _, _, _, _, _, _, _, _, _, _, _, _, _, _, _, _, _, _, _, _, _, _, _, _, _, _, _, _, _, _, _, _, _, _, _, _, _, _, _, _, _, _, _, _, _, _, _, _, _, _, _, _, _, _, _, _, _, by have := HX2.out; omega, by have := HX2.out; omega, by have := HX2.out; rw [List.length_append]; simp only [List.length_cons, List.length_nil]; omega, HNX.out, ⟨by simpa [strVals] using hrow, hfr⟩, J4.out.set_hold _, ?_, rfl⟩, ?_⟩
              · exact (((HS2.out.trans_nil S2.out).alloc _).trans (Same.of_grown HG.out) (fun x hx hlt => by have := HO.out.2 x (by simpa using hx); omega)).setCell (by simp) _
              · rw [holdAt_eq (J4.out.set_hold _), holdAt_eq HJ2.out]
                have := HX2.out; omega

end Go.Proofs.YtpkpfebhdgbgbaaGreatDoor.J
namespace Go.Proofs.YtpkpfebhdgbgbaaGreatDoor.J
open Go.RowKit
set_option linter.unusedSimpArgs false
set_option linter.unusedVariables false

def MorePost (w : World) (e : Ending) (w' : World) : Prop := ∃ n : Int, 0 ≤ n ∧ n < 4294967296 ∧ e = .returned (.int .u32 n) ∧ w = w'

def FourPost (w : World) (e : Ending) (w' : World) : Prop := ∃ t : ByteArray, t.size = 4 ∧ e = .returned (.string t) ∧ Same [] w w'
def SealPost (w : World) (s : ByteArray) (e : Ending) (w' : World) : Prop := ∃ t : ByteArray, t.size = 4 ∧ e = .returned (.string (s ++ t)) ∧ Same [] w w'
/-- The beginning of the section of a body. -/
def hdrS (n : Nat) : ByteArray := strOf [66, 176 + (n + 9) / 256, (n + 9) % 256, 0, 0, 193, 0, 0]
def MadePost (w : World) (body : ByteArray) (e : Ending) (w' : World) : Prop := ∃ t : ByteArray, t.size = 4 ∧ e = .returned (.string (hdrS body.size ++ body ++ t)) ∧ Same [] w w'

end Go.Proofs.YtpkpfebhdgbgbaaGreatDoor.J
namespace Go.Proofs.YtpkpfebhdgbgbaaGreatDoor.J
open Go.RowKit
set_option linter.unusedSimpArgs false
set_option linter.unusedVariables false

/-- One bit more; so many bits of a byte; so many bytes. -/
def stepC (x : Int) (c U : Nat) : Int := if (!decide (2147483648 ≤ x) == ((wrap64 ((c : Int) / (U : Int))).tmod 2 == 1)) = true then bits .xor .u32 (x * 2 % 4294967296) 79764919 else x * 2 % 4294967296
def bitsC (c : Nat) : Nat → Int → Int
  | 0, x => x
  | k + 1, x => bitsC c k (stepC x c (128 / 2 ^ (7 - k)))
def moreC (s : ByteArray) : Nat → Int → Int
  | 0, x => x
  | k + 1, x => moreC s k (bitsC (byteOf s (s.size - (k + 1))) 8 x)

def fourC (x : Int) : ByteArray := strOf [x.toNat / 16777216, x.toNat / 65536 % 256, x.toNat / 256 % 256, x.toNat % 256]
/-- The sum of bytes, as four bytes. -/
def sumC (s : ByteArray) : ByteArray := fourC (moreC s s.size 4294967295)
theorem size_sum (s : ByteArray) : (sumC s).size = 4 := size_strOf _
/-- The section of a body. -/
def madeC (body : ByteArray) : ByteArray := hdrS body.size ++ body ++ sumC (hdrS body.size ++ body)
end Go.Proofs.YtpkpfebhdgbgbaaGreatDoor.J
