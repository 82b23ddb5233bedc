/- Small parts of a packet, in the program and in the reference: Check, the reader, a packet's cells. No condition. -/
import Derived.Test.YtkjdfgmmmmjhlaaDoorBitsIn
import Derived.Test.YtkjdfgmmmmjhlaaDoorSlices
import Derived.Test.YtkjdfgmmmmjhlaaDoorJumps
namespace Go.Proofs.YtkjdfgmmmmjhlaaDoor
open Go.RowKit
set_option linter.unusedSimpArgs false
set_option linter.unusedVariables false

theorem ret_bool {x y : Bool} (h : x = y) : Ending.returned (.bool x) = .returned (.bool y) := by rw [h]
theorem ret_int {k : IntKind} {x y : Int} (h : x = y) : Ending.returned (.int k x) = .returned (.int k y) := by rw [h]
def chkG (pid count : Int) (body : ByteArray) : Int := if pid < 0 ∨ 8192 ≤ pid ∨ count < 0 ∨ 15 < count then 15 else if 184 < body.size then 17 else 0
def NumPost (w : World) (n : Int) (e : Ending) (w' : World) : Prop := e = .returned (.int .i64 n) ∧ Same [] w w'
theorem chk_cases (pid count : Int) (body : ByteArray) :
    (pid < 0 ∧ chkG pid count body = 15) ∨ (0 ≤ pid ∧ 8192 ≤ pid ∧ chkG pid count body = 15) ∨ (0 ≤ pid ∧ pid < 8192 ∧ count < 0 ∧ chkG pid count body = 15) ∨ (0 ≤ pid ∧ pid < 8192 ∧ 0 ≤ count ∧ 15 < count ∧ chkG pid count body = 15) ∨
    (0 ≤ pid ∧ pid < 8192 ∧ 0 ≤ count ∧ count ≤ 15 ∧ (184 : Int) < (body.size : Int) ∧ chkG pid count body = 17) ∨ (0 ≤ pid ∧ pid < 8192 ∧ 0 ≤ count ∧ count ≤ 15 ∧ (body.size : Int) ≤ 184 ∧ chkG pid count body = 0) := by
  unfold chkG
  by_cases h1 : pid < 0
  · left; simp [h1]
  by_cases h2 : 8192 ≤ pid
  · right; left; simp [h2]; omega
  by_cases h3 : count < 0
  · right; right; left; simp [h3]; omega
  by_cases h4 : 15 < count
  · right; right; right; left; simp [h4]; omega
  have hn : ¬ (pid < 0 ∨ 8192 ≤ pid ∨ count < 0 ∨ 15 < count) := by omega
  by_cases h5 : 184 < body.size
  · right; right; right; right; left; rw [if_neg hn, if_pos h5]; refine ⟨by omega, by omega, by omega, by omega, by omega, rfl⟩
  · right; right; right; right; right; rw [if_neg hn, if_neg h5]; refine ⟨by omega, by omega, by omega, by omega, by omega, rfl⟩
theorem pcheck_any (pid : Int) (st : Bool) (count : Int) (bad : Bool) (body : ByteArray) (w : World) :
    Calls Tryd.prog 13 #[.agg #[.int .i64 pid, .bool st, .int .i64 count, .bool bad, .string body]] w (NumPost w (chkG pid count body)) := by
  rcases chk_cases pid count body with ⟨h1, he⟩ | ⟨h1, h2, he⟩ | ⟨h1, h2, h3, he⟩ | ⟨h1, h2, h3, h4, he⟩ | ⟨h1, h2, h3, h4, h5, he⟩ | ⟨h1, h2, h3, h4, h5, he⟩
  all_goals
    rw [he]
    clear he
    go_enter Tryd.func13, Tryd.ntmps13
    go_wp2
    go_ret
    exact ⟨rfl, (Same.refl _ w).alloc _⟩
theorem rpcheck_any (pid : Int) (st : Bool) (count : Int) (bad : Bool) (body : ByteArray) (w : World) :
    Calls Tryd.prog 10 #[.agg #[.int .i64 pid, .bool st, .int .i64 count, .bool bad, .string body]] w (NumPost w (chkG pid count body)) := by
  rcases chk_cases pid count body with ⟨h1, he⟩ | ⟨h1, h2, he⟩ | ⟨h1, h2, h3, he⟩ | ⟨h1, h2, h3, h4, he⟩ | ⟨h1, h2, h3, h4, h5, he⟩ | ⟨h1, h2, h3, h4, h5, he⟩
  all_goals
    rw [he]
    clear he
    go_enter Tryd.func10, Tryd.ntmps10
    go_wp2
    go_ret
    exact ⟨rfl, (Same.refl _ w).alloc _⟩
theorem byteOf_lt (s : ByteArray) (i : Nat) : byteOf s i < 256 := UInt8.toNat_lt _
theorem bread_any (s : ByteArray) (w : World) : Calls Tryd.prog 31 #[.string s] w fun e w' => e = .returned (.pointer (some ⟨w.heap.size, 0, none⟩)) ∧ w.alloc (.cells #[.int .i64 0, .int .i64 0, .string s] 90) = w' := by
  go_enter Tryd.func31, Tryd.ntmps31
  go_wp2
  go_ret
  exact ⟨rfl, rfl⟩
theorem isIn_new (w : World) (s : ByteArray) : IsIn (w.alloc (.cells #[.int .i64 0, .int .i64 0, .string s] 90)) w.heap.size 0 0 s := heap_alloc_new w _
theorem get_at (b p n : Nat) (m : Int) (hm : (n : Int) = m) (s : ByteArray) (w w0 : World) (h : IsIn w b p 0 s) (hw : Same [b] w0 w) (hs : s.size < 1099511627776) (hp : p + n ≤ 8 * s.size) (hn : n ≤ 64) :
    Calls Tryd.prog 32 #[.pointer (some ⟨b, 0, none⟩),   .int .i64 m] w (GetPost w0 b (p + n) 0 s (numFrom s p n)) :=
  hm ▸ (get_ok b p n s w h hs hp hn).mono fun e w' ⟨h1, h2, h3⟩ => ⟨h1, h2, hw.trans h3 (fun x hx _ => hx)⟩
theorem pkt_cells {w : World} {b : Nat} {pp : Int} {st : Bool} {c : Int} {bad : Bool} {body : ByteArray} (h : w.heap[b]? = some (.cells #[.int .i64 pp, .bool st, .int .i64 c, .bool bad, .string body] 23 (0, 0))) :
    w.cell? ⟨b, 0, none⟩ = some (.int .i64 pp) ∧ w.cell? ⟨b, 1, none⟩ = some (.bool st) ∧ w.cell? ⟨b, 2, none⟩ = some (.int .i64 c) ∧ w.cell? ⟨b, 3, none⟩ = some (.bool bad) ∧ w.cell? ⟨b, 4, none⟩ = some (.string body) := by
  refine ⟨?_, ?_, ?_, ?_, ?_⟩ <;> exact (cell_of h _).trans rfl
theorem chk_range {pp c : Int} {body : ByteArray} (h : chkG pp c body = 0) : 0 ≤ c ∧ c ≤ 15 ∧ body.size ≤ 184 := by
  unfold chkG at h
  split at h
  · cases h
  split at h
  · cases h
  · rename_i h1 h2; omega
theorem Same.drewN (w : World) (n : Nat) : Same [] w (w.drewN n) := ⟨rfl, rfl, rfl, Nat.le_refl _, fun _ _ _ => rfl⟩

end Go.Proofs.YtkjdfgmmmmjhlaaDoor
