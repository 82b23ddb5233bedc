/- The making of a datagram of version 6, and the reference's, and that both are one. Conditions: bytes of addresses. -/
import Derived.Test.YteifbncgfopgfaaDgRMake4
namespace Go.Proofs.Yteifbncgfopgfaa.Dg
open Go.RowKit
set_option linter.unusedSimpArgs false
set_option linter.unusedVariables false

def head6 (n p : Int) : ByteArray := strOfNums [96, 0, 0, 0] ++ strOfNums [n / 256, n % 256] ++ strOfNums [p, 64]
def mk6 (f t : ByteArray) (p : Int) (body : ByteArray) : ByteArray := head6 body.size p ++ f ++ t ++ body
theorem head6_eq (n p : Int) : strOfNums [96, 0, 0, 0, n / 256, n % 256, p, 64] = head6 n p := by
  apply ByteArray.ext; simp [head6, strOfNums, ByteArray.data_append]

/-- A conversion of an array's cells, all known. -/
theorem conv_at (W : World) (g n c : Nat) (xs : List Int) (cs : Array Value) (t : TypeId) (h : W.heap[g]? = some (.cells cs t (0, 0))) (hcs : cs = (xs.map (Value.int .u8)).toArray) (hl : xs.length = n) :
    (convert 28 9 (.slice (some ⟨g, 0, none⟩) n c)).run Try.prog W = .ok (.string (strOfNums xs)) W := by
  subst hcs
  refine run_convert_bytes_arg W _ 5 Try.underlying28 Try.underlying5 g 0 n c xs hl (fun i hi => ?_) _ Try.underlying9
  rw [cell_of h]
  simp [hl ▸ hi]

theorem make6_arg (a0 a1 a2 a3 a4 a5 a6 a7 a8 a9 a10 a11 a12 a13 a14 a15 b0 b1 b2 b3 b4 b5 b6 b7 b8 b9 b10 b11 b12 b13 b14 b15 p : Int) (body : ByteArray) (w : World) (h : p < 0 ∨ 255 < p) :
    Calls Try.prog 18 #[.agg #[.int .u8 a0, .int .u8 a1, .int .u8 a2, .int .u8 a3, .int .u8 a4, .int .u8 a5, .int .u8 a6, .int .u8 a7, .int .u8 a8, .int .u8 a9, .int .u8 a10, .int .u8 a11, .int .u8 a12, .int .u8 a13, .int .u8 a14, .int .u8 a15], .agg #[.int .u8 b0, .int .u8 b1, .int .u8 b2, .int .u8 b3, .int .u8 b4, .int .u8 b5, .int .u8 b6, .int .u8 b7, .int .u8 b8, .int .u8 b9, .int .u8 b10, .int .u8 b11, .int .u8 b12, .int .u8 b13, .int .u8 b14, .int .u8 b15], .int .i64 p, .string body] w
      (Ret (.tuple #[.string ⟨#[]⟩, .int .i64 1]) w) := by
  rcases h with h | h
  all_goals
    go_enter Try.func18, Try.ntmps18
    go_wp2
    go_ret2
    exact ⟨rfl, ((Same.refl _ w).alloc _).alloc _⟩
theorem make6_range (a0 a1 a2 a3 a4 a5 a6 a7 a8 a9 a10 a11 a12 a13 a14 a15 b0 b1 b2 b3 b4 b5 b6 b7 b8 b9 b10 b11 b12 b13 b14 b15 p : Int) (body : ByteArray) (w : World) (h0 : 0 ≤ p) (h1 : p ≤ 255) (h : 4040 < body.size) (hm : body.size ≤ maxLen) :
    Calls Try.prog 18 #[.agg #[.int .u8 a0, .int .u8 a1, .int .u8 a2, .int .u8 a3, .int .u8 a4, .int .u8 a5, .int .u8 a6, .int .u8 a7, .int .u8 a8, .int .u8 a9, .int .u8 a10, .int .u8 a11, .int .u8 a12, .int .u8 a13, .int .u8 a14, .int .u8 a15], .agg #[.int .u8 b0, .int .u8 b1, .int .u8 b2, .int .u8 b3, .int .u8 b4, .int .u8 b5, .int .u8 b6, .int .u8 b7, .int .u8 b8, .int .u8 b9, .int .u8 b10, .int .u8 b11, .int .u8 b12, .int .u8 b13, .int .u8 b14, .int .u8 b15], .int .i64 p, .string body] w
      (Ret (.tuple #[.string ⟨#[]⟩, .int .i64 15]) w) := by
  unfold maxLen at hm
  have h' : (4040 : Int) < (body.size : Int) := by omega
  go_enter Try.func18, Try.ntmps18
  go_wp2
  go_ret2
  exact ⟨rfl, ((Same.refl _ w).alloc _).alloc _⟩

set_option maxHeartbeats 4000000 in
theorem make6_ok (a0 a1 a2 a3 a4 a5 a6 a7 a8 a9 a10 a11 a12 a13 a14 a15 b0 b1 b2 b3 b4 b5 b6 b7 b8 b9 b10 b11 b12 b13 b14 b15 p : Int) (body : ByteArray) (w : World) (h0 : 0 ≤ p) (h1 : p ≤ 255) (h : body.size ≤ 4040) :
    Calls Try.prog 18 #[.agg #[.int .u8 a0, .int .u8 a1, .int .u8 a2, .int .u8 a3, .int .u8 a4, .int .u8 a5, .int .u8 a6, .int .u8 a7, .int .u8 a8, .int .u8 a9, .int .u8 a10, .int .u8 a11, .int .u8 a12, .int .u8 a13, .int .u8 a14, .int .u8 a15], .agg #[.int .u8 b0, .int .u8 b1, .int .u8 b2, .int .u8 b3, .int .u8 b4, .int .u8 b5, .int .u8 b6, .int .u8 b7, .int .u8 b8, .int .u8 b9, .int .u8 b10, .int .u8 b11, .int .u8 b12, .int .u8 b13, .int .u8 b14, .int .u8 b15], .int .i64 p, .string body] w
      (Ret (.tuple #[.string (mk6 (strOfNums [a0, a1, a2, a3, a4, a5, a6, a7, a8, a9, a10, a11, a12, a13, a14, a15]) (strOfNums [b0, b1, b2, b3, b4, b5, b6, b7, b8, b9, b10, b11, b12, b13, b14, b15]) p body), .int .i64 0]) w) := by
  have hc2 := conv2; have hc4 := conv4; have hsn := snums
  have h' : (body.size : Int) ≤ 4040 := by omega
  have hsa : ∀ a b : ByteArray, (a ++ b).size = a.size + b.size := fun a b => ByteArray.size_append
  have hpm : p % 256 = p := by omega
  have hw2 : IntKind.u8.wrap p = p := IntWalk.u8_in _ (by omega)
  go_enter Try.func18, Try.ntmps18
  go_upto_region 5 with fail
  go_cut [10] (fun s10 wx => s10 = .string (head6 body.size p) ∧ Same [] ((w.alloc (.cells #[.int .u8 a0, .int .u8 a1, .int .u8 a2, .int .u8 a3, .int .u8 a4, .int .u8 a5, .int .u8 a6, .int .u8 a7, .int .u8 a8, .int .u8 a9, .int .u8 a10, .int .u8 a11, .int .u8 a12, .int .u8 a13, .int .u8 a14, .int .u8 a15] 43)).alloc (.cells #[.int .u8 b0, .int .u8 b1, .int .u8 b2, .int .u8 b3, .int .u8 b4, .int .u8 b5, .int .u8 b6, .int .u8 b7, .int .u8 b8, .int .u8 b9, .int .u8 b10, .int .u8 b11, .int .u8 b12, .int .u8 b13, .int .u8 b14, .int .u8 b15] 43)) wx)
  case first =>
    go_region_with (go_at_call 29; refine (two_any _ (by omega) (by omega) _).mono ?_; rintro e w' ⟨rfl, hs⟩; obtain ⟨sc1, sc2⟩ := scell hs; have sc3 := scell2 hs; have hz := hs.size; simp only [drew_heap, World.size_alloc] at hz sc1 sc2 sc3; have HS := Lib.hid hs; clear hs)
    all_goals (go_wp2_with fail; go_meet; exact ⟨rfl, by repeat (first | exact Same.refl _ _ | refine Same.drew ?_ | refine Same.alloc ?_ _ | refine Same.trans_nil ?_ HS.out)⟩)
  case rest =>
    obtain ⟨rfl, hs⟩ := hcut
    have ba := hs.heap (show ((w.alloc (.cells #[.int .u8 a0, .int .u8 a1, .int .u8 a2, .int .u8 a3, .int .u8 a4, .int .u8 a5, .int .u8 a6, .int .u8 a7, .int .u8 a8, .int .u8 a9, .int .u8 a10, .int .u8 a11, .int .u8 a12, .int .u8 a13, .int .u8 a14, .int .u8 a15] 43)).alloc (.cells #[.int .u8 b0, .int .u8 b1, .int .u8 b2, .int .u8 b3, .int .u8 b4, .int .u8 b5, .int .u8 b6, .int .u8 b7, .int .u8 b8, .int .u8 b9, .int .u8 b10, .int .u8 b11, .int .u8 b12, .int .u8 b13, .int .u8 b14, .int .u8 b15] 43)).heap[w.heap.size]? = _ from (Below.heap_alloc _ _ _ (by simp)).trans (heap_alloc_new w _)) (by simp)
    have hnb := heap_alloc_new (w.alloc (.cells #[.int .u8 a0, .int .u8 a1, .int .u8 a2, .int .u8 a3, .int .u8 a4, .int .u8 a5, .int .u8 a6, .int .u8 a7, .int .u8 a8, .int .u8 a9, .int .u8 a10, .int .u8 a11, .int .u8 a12, .int .u8 a13, .int .u8 a14, .int .u8 a15] 43)) (.cells #[.int .u8 b0, .int .u8 b1, .int .u8 b2, .int .u8 b3, .int .u8 b4, .int .u8 b5, .int .u8 b6, .int .u8 b7, .int .u8 b8, .int .u8 b9, .int .u8 b10, .int .u8 b11, .int .u8 b12, .int .u8 b13, .int .u8 b14, .int .u8 b15] 43)
    rw [World.size_alloc] at hnb
    have bb := hs.heap hnb (by simp)
    have hA := conv_at wc.drew _ 16 16 [a0, a1, a2, a3, a4, a5, a6, a7, a8, a9, a10, a11, a12, a13, a14, a15] _ _ ba rfl rfl
    have hB := conv_at wc.drew _ 16 16 [b0, b1, b2, b3, b4, b5, b6, b7, b8, b9, b10, b11, b12, b13, b14, b15] _ _ bb rfl rfl
    have HS := Lib.hid ((((Same.refl [] w).alloc _).alloc _).trans_nil hs)
    have hza := snums [a0, a1, a2, a3, a4, a5, a6, a7, a8, a9, a10, a11, a12, a13, a14, a15]; have hzb := snums [b0, b1, b2, b3, b4, b5, b6, b7, b8, b9, b10, b11, b12, b13, b14, b15]
    simp only [List.length_cons, List.length_nil, Nat.zero_add, Nat.reduceAdd] at hza hzb
    generalize strOfNums [a0, a1, a2, a3, a4, a5, a6, a7, a8, a9, a10, a11, a12, a13, a14, a15] = f at *
    generalize strOfNums [b0, b1, b2, b3, b4, b5, b6, b7, b8, b9, b10, b11, b12, b13, b14, b15] = t at *
    obtain ⟨hd, hhd⟩ : ∃ hd, hd = head6 body.size p := ⟨_, rfl⟩
    have hds : hd.size = 8 := by rw [hhd]; simp [head6, hsa, hsn]
    rw [← hhd]
    have HHD := Lib.hid hhd
    clear hs hnb ba bb hhd
    go_wp2_with fail
    go_region
    all_goals go_wp2_with fail
    all_goals go_ret2
    all_goals exact ⟨by unfold mk6; rw [← HHD.out]; rfl, HS.out.drew⟩

theorem rmake6_arg (f t : ByteArray) (p : Int) (body : ByteArray) (w : World) (h : p < 0 ∨ 255 < p) (hb : body.size ≤ 5000) :
    Calls Try.prog 19 #[.string f, .string t, .int .i64 p, .string body] w (Ret (.tuple #[.string ⟨#[]⟩, .int .i64 1]) w) := by
  rcases h with h | h
  all_goals
    go_enter Try.func19, Try.ntmps19
    go_wp2
    go_ret2
    exact ⟨rfl, Same.refl _ w⟩
theorem rmake6_range (f t : ByteArray) (p : Int) (body : ByteArray) (w : World) (h0 : 0 ≤ p) (h1 : p ≤ 255) (h : 4040 < body.size) (hb : body.size ≤ 5000) :
    Calls Try.prog 19 #[.string f, .string t, .int .i64 p, .string body] w (Ret (.tuple #[.string ⟨#[]⟩, .int .i64 15]) w) := by
  go_enter Try.func19, Try.ntmps19
  go_wp2
  go_ret2
  exact ⟨rfl, Same.refl _ w⟩

set_option maxHeartbeats 1000000 in
theorem rmake6_ok (f t : ByteArray) (p : Int) (body : ByteArray) (w : World) (hf : f.size ≤ 16) (ht : t.size ≤ 16) (h0 : 0 ≤ p) (h1 : p ≤ 255) (h : body.size ≤ 4040) :
    Calls Try.prog 19 #[.string f, .string t, .int .i64 p, .string body] w (Ret (.tuple #[.string (mk6 f t p body), .int .i64 0]) w) := by
  have hsa : ∀ a b : ByteArray, (a ++ b).size = a.size + b.size := fun a b => ByteArray.size_append
  go_enter Try.func19, Try.ntmps19
  have hI : IntsAt (w.alloc (.cells #[.int .i64 96, .int .i64 0, .int .i64 0, .int .i64 0, .int .i64 ((body.size : Int) / 256), .int .i64 ((body.size : Int) % 256), .int .i64 p, .int .i64 64] 3)) (.slice (some ⟨w.heap.size, 0, none⟩) 8 8) [96, 0, 0, 0, (body.size : Int) / 256, (body.size : Int) % 256, p, 64] := intsAt_new w [96, 0, 0, 0, (body.size : Int) / 256, (body.size : Int) % 256, p, 64] _ 8 rfl rfl (by omega)
  go_wp2_with fail
  refine (text_any _ _ _ hI (fun i hi => ?_) (by simp)).mono ?_
  · have hi10 : i = 0 ∨ i = 1 ∨ i = 2 ∨ i = 3 ∨ i = 4 ∨ i = 5 ∨ i = 6 ∨ i = 7 := by simp at hi; omega
    rcases hi10 with rfl | rfl | rfl | rfl | rfl | rfl | rfl | rfl <;> simp only [List.getElem_cons_zero, List.getElem_cons_succ] <;> omega
  rintro e w1 ⟨rfl, s1⟩
  have S1 := Lib.hid (((Same.refl [] w).alloc _).trans_nil s1)
  clear s1
  have hhs := snums [96, 0, 0, 0, (body.size : Int) / 256, (body.size : Int) % 256, p, 64]
  rw [head6_eq] at hhs ⊢
  have hmk : mk6 f t p body = head6 body.size p ++ f ++ t ++ body := rfl
  generalize head6 body.size p = hd at *
  simp only [List.length_cons, List.length_nil, Nat.zero_add, Nat.reduceAdd] at hhs
  have HMK := Lib.hid hmk
  clear hmk
  go_wp2_with fail
  go_ret2
  exact ⟨by rw [HMK.out]; rfl, S1.out⟩

end Go.Proofs.Yteifbncgfopgfaa.Dg
