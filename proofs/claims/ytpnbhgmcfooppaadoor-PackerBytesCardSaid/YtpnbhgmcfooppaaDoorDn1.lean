/- The joiner's small parts, and the reference's: Check, lose, worse, Held, Lost, Drop, New, Plain, Need. Conditions: texts are not too long. -/
import Derived.Test.YtpnbhgmcfooppaaDoorBitsIn
import Derived.Test.YtpnbhgmcfooppaaDoorSlices
import Derived.Test.YtpnbhgmcfooppaaDoorJumps
namespace Go.Proofs.YtpnbhgmcfooppaaDoor
open Go.RowKit
set_option linter.unusedSimpArgs false
set_option linter.unusedVariables false

theorem ret_bool {x y : Bool} (h : x = y) : Ending.returned (.bool x) = .returned (.bool y) := by rw [h]
theorem ret_int {k : IntKind} {x y : Int} (h : x = y) : Ending.returned (.int k x) = .returned (.int k y) := by rw [h]

/-- What is wrong with a packet. -/
def chkG (pid count : Int) (body : ByteArray) : Int := if pid < 0 ∨ 8192 ≤ pid ∨ count < 0 ∨ 15 < count then 15 else if 184 < body.size then 17 else 0
def NumPost (w : World) (n : Int) (e : Ending) (w' : World) : Prop := e = .returned (.int .i64 n) ∧ Same [] w w'

theorem chk_cases (pid count : Int) (body : ByteArray) :
    (pid < 0 ∧ chkG pid count body = 15) ∨ (0 ≤ pid ∧ 8192 ≤ pid ∧ chkG pid count body = 15) ∨ (0 ≤ pid ∧ pid < 8192 ∧ count < 0 ∧ chkG pid count body = 15) ∨ (0 ≤ pid ∧ pid < 8192 ∧ 0 ≤ count ∧ 15 < count ∧ chkG pid count body = 15) ∨
    (0 ≤ pid ∧ pid < 8192 ∧ 0 ≤ count ∧ count ≤ 15 ∧ (184 : Int) < (body.size : Int) ∧ chkG pid count body = 17) ∨ (0 ≤ pid ∧ pid < 8192 ∧ 0 ≤ count ∧ count ≤ 15 ∧ (body.size : Int) ≤ 184 ∧ chkG pid count body = 0) := by
  unfold chkG
  by_cases h1 : pid < 0
  · left; simp [h1]
  by_cases h2 : 8192 ≤ pid
  · right; left; simp [h2]; omega
  by_cases h3 : count < 0
  · right; right; left; simp [h3]; omega
  by_cases h4 : 15 < count
  · right; right; right; left; simp [h4]; omega
  have hn : ¬ (pid < 0 ∨ 8192 ≤ pid ∨ count < 0 ∨ 15 < count) := by omega
  by_cases h5 : 184 < body.size
  · right; right; right; right; left; rw [if_neg hn, if_pos h5]; refine ⟨by omega, by omega, by omega, by omega, by omega, rfl⟩
  · right; right; right; right; right; rw [if_neg hn, if_neg h5]; refine ⟨by omega, by omega, by omega, by omega, by omega, rfl⟩

theorem pcheck_any (pid : Int) (st : Bool) (count : Int) (bad : Bool) (body : ByteArray) (w : World) :
    Calls Tryd.prog 27 #[.agg #[.int .i64 pid, .bool st, .int .i64 count, .bool bad, .string body]] w (NumPost w (chkG pid count body)) := by
  rcases chk_cases pid count body with ⟨h1, he⟩ | ⟨h1, h2, he⟩ | ⟨h1, h2, h3, he⟩ | ⟨h1, h2, h3, h4, he⟩ | ⟨h1, h2, h3, h4, h5, he⟩ | ⟨h1, h2, h3, h4, h5, he⟩
  all_goals
    rw [he]
    clear he
    go_enter Tryd.func27, Tryd.ntmps27
    go_wp2
    go_ret
    exact ⟨rfl, (Same.refl _ w).alloc _⟩
def jV (pid : Int) (hold : ByteArray) (fol : Bool) (c : Int) (bd : ByteArray) (lost : Int) : Array Value := #[.int .i64 pid, .string hold, .bool fol, .int .i64 c, .string bd, .int .i64 lost]
/-- Block b is a joiner. -/
def IsJ (w : World) (b : Nat) (pid : Int) (hold : ByteArray) (fol : Bool) (c : Int) (bd : ByteArray) (lost : Int) : Prop := w.heap[b]? = some (.cells (jV pid hold fol c bd lost) 59 (0, 0))
theorem IsJ.cells {w : World} {b : Nat} {pid : Int} {hold : ByteArray} {fol : Bool} {c : Int} {bd : ByteArray} {lost : Int} (h : IsJ w b pid hold fol c bd lost) :
    (w.cell? ⟨b, 0, none⟩ = some (.int .i64 pid) ∧ w.cell? ⟨b, 1, none⟩ = some (.string hold) ∧ w.cell? ⟨b, 2, none⟩ = some (.bool fol) ∧ w.cell? ⟨b, 3, none⟩ = some (.int .i64 c) ∧ w.cell? ⟨b, 4, none⟩ = some (.string bd) ∧ w.cell? ⟨b, 5, none⟩ = some (.int .i64 lost)) ∧
    (w.frozen? ⟨b, 1, none⟩ = false ∧ w.frozen? ⟨b, 2, none⟩ = false ∧ w.frozen? ⟨b, 3, none⟩ = false ∧ w.frozen? ⟨b, 4, none⟩ = false ∧ w.frozen? ⟨b, 5, none⟩ = false) := by
  refine ⟨⟨?_, ?_, ?_, ?_, ?_, ?_⟩, ?_, ?_, ?_, ?_, ?_⟩
  all_goals first | exact (cell_of h _).trans rfl | exact free_of h _
theorem IsJ.same {A B : World} {b : Nat} {pid : Int} {hold : ByteArray} {fol : Bool} {c : Int} {bd : ByteArray} {lost : Int} {S : List Nat} (h : IsJ A b pid hold fol c bd lost) (hs : Same S A B) (hb : b ∉ S) : IsJ B b pid hold fol c bd lost := hs.heap h hb
theorem IsJ.set_hold {w : World} {b : Nat} {pid : Int} {hold : ByteArray} {fol : Bool} {c : Int} {bd : ByteArray} {lost : Int} (h : IsJ w b pid hold fol c bd lost) (s : ByteArray) : IsJ (w.setCell ⟨b, 1, none⟩ (.string s)) b pid s fol c bd lost := (set_same h _).trans rfl
theorem IsJ.set_fol {w : World} {b : Nat} {pid : Int} {hold : ByteArray} {fol : Bool} {c : Int} {bd : ByteArray} {lost : Int} (h : IsJ w b pid hold fol c bd lost) (s : Bool) : IsJ (w.setCell ⟨b, 2, none⟩ (.bool s)) b pid hold s c bd lost := (set_same h _).trans rfl
theorem IsJ.set_c {w : World} {b : Nat} {pid : Int} {hold : ByteArray} {fol : Bool} {c : Int} {bd : ByteArray} {lost : Int} (h : IsJ w b pid hold fol c bd lost) (s : Int) : IsJ (w.setCell ⟨b, 3, none⟩ (.int .i64 s)) b pid hold fol s bd lost := (set_same h _).trans rfl
theorem IsJ.set_bd {w : World} {b : Nat} {pid : Int} {hold : ByteArray} {fol : Bool} {c : Int} {bd : ByteArray} {lost : Int} (h : IsJ w b pid hold fol c bd lost) (s : ByteArray) : IsJ (w.setCell ⟨b, 4, none⟩ (.string s)) b pid hold fol c s lost := (set_same h _).trans rfl
theorem IsJ.set_lost {w : World} {b : Nat} {pid : Int} {hold : ByteArray} {fol : Bool} {c : Int} {bd : ByteArray} {lost : Int} (h : IsJ w b pid hold fol c bd lost) (s : Int) : IsJ (w.setCell ⟨b, 5, none⟩ (.int .i64 s)) b pid hold fol c bd s := (set_same h _).trans rfl
def JPost (w : World) (v : Value) (b : Nat) (pid : Int) (hold : ByteArray) (fol : Bool) (c : Int) (bd : ByteArray) (lost : Int) (e : Ending) (w' : World) : Prop := e = .returned v ∧ IsJ w' b pid hold fol c bd lost ∧ Same [b] w w'
theorem jlose_any {w : World} {b : Nat} {pid : Int} {hold : ByteArray} {fol : Bool} {c : Int} {bd : ByteArray} {lost : Int} (h : IsJ w b pid hold fol c bd lost) :
    Calls Tryd.prog 25 #[.pointer (some ⟨b, 0, none⟩)] w (JPost w (.tuple #[]) b pid ⟨#[]⟩ false c bd lost) := by
  obtain ⟨⟨c0, c1, c2, c3, c4, c5⟩, f1, f2, f3, f4, f5⟩ := h.cells
  have H := Lib.hid h
  clear h
  go_enter Tryd.func25, Tryd.ntmps25
  go_wp2
  go_end0
  exact ⟨rfl, (H.out.set_hold _).set_fol _, ((Same.refl [b] w).setCell (by simp) _).setCell (by simp) _⟩
def worseG (a b : Int) : Int := if a = 12 ∨ b = 0 then a else b
theorem worse_any (a b : Int) (w : World) : Calls Tryd.prog 30 #[.int .i64 a, .int .i64 b] w fun e w' => e = .returned (.int .i64 (worseG a b)) ∧ w = w' := by
  by_cases h1 : a = 12
  · subst h1
    go_enter Tryd.func30, Tryd.ntmps30
    go_wp2
    go_ret
    exact ⟨ret_int (by simp [worseG]), rfl⟩
  · have g1 : (a == 12) = false := by simpa using h1
    by_cases h2 : b = 0
    · subst h2
      go_enter Tryd.func30, Tryd.ntmps30
      go_wp2
      go_ret
      exact ⟨ret_int (by simp [worseG]), rfl⟩
    · have g2 : (b == 0) = false := by simpa using h2
      go_enter Tryd.func30, Tryd.ntmps30
      go_wp2
      go_ret
      exact ⟨ret_int (by simp [worseG, h1, h2]), rfl⟩

theorem held_any {w : World} {b : Nat} {pid : Int} {hold : ByteArray} {fol : Bool} {c : Int} {bd : ByteArray} {lost : Int} (h : IsJ w b pid hold fol c bd lost) :
    Calls Tryd.prog 11 #[.pointer (some ⟨b, 0, none⟩)] w fun e w' => e = .returned (.string hold) ∧ w = w' := by
  obtain ⟨⟨c0, c1, c2, c3, c4, c5⟩, f1, f2, f3, f4, f5⟩ := h.cells
  clear h
  go_enter Tryd.func11, Tryd.ntmps11
  go_wp2
  go_ret
  exact ⟨rfl, rfl⟩
theorem lost_any {w : World} {b : Nat} {pid : Int} {hold : ByteArray} {fol : Bool} {c : Int} {bd : ByteArray} {lost : Int} (h : IsJ w b pid hold fol c bd lost) :
    Calls Tryd.prog 9 #[.pointer (some ⟨b, 0, none⟩)] w fun e w' => e = .returned (.int .i64 lost) ∧ w = w' := by
  obtain ⟨⟨c0, c1, c2, c3, c4, c5⟩, f1, f2, f3, f4, f5⟩ := h.cells
  clear h
  go_enter Tryd.func9, Tryd.ntmps9
  go_wp2
  go_ret
  exact ⟨rfl, rfl⟩
theorem drop_any {w : World} {b : Nat} {pid : Int} {hold : ByteArray} {fol : Bool} {c : Int} {bd : ByteArray} {lost : Int} (h : IsJ w b pid hold fol c bd lost) :
    Calls Tryd.prog 10 #[.pointer (some ⟨b, 0, none⟩)] w (JPost w (.tuple #[]) b pid ⟨#[]⟩ false 0 ⟨#[]⟩ lost) := by
  have H := Lib.hid (jlose_any h)
  clear h
  go_enter Tryd.func10, Tryd.ntmps10
  go_wp2_with fail
  (with_reducible refine H.out.mono ?_)
  rintro e w1 ⟨rfl, hj, hs⟩
  obtain ⟨⟨c0, c1, c2, c3, c4, c5⟩, f1, f2, f3, f4, f5⟩ := hj.cells
  have HJ := Lib.hid hj; have HS := Lib.hid hs
  clear hj hs H
  go_wp2_with fail
  go_end0
  exact ⟨rfl, (HJ.out.set_c _).set_bd _, (HS.out.setCell (by simp) _).setCell (by simp) _⟩

end Go.Proofs.YtpnbhgmcfooppaaDoor
