/- The making of a datagram of version 4, and the reference's: what each answers. Conditions: bytes of addresses. -/
import Derived.Test.YtdkjcocpkgojaaaDoorHDgText
namespace Go.Proofs.YtdkjcocpkgojaaaDoor.Dg
open Go.RowKit
set_option linter.unusedSimpArgs false
set_option linter.unusedVariables false

def head4 (n p : Int) : ByteArray := strOfNums [69, 0] ++ strOfNums [n / 256, n % 256] ++ ⟨#[0, 0, 0, 0]⟩ ++ strOfNums [64, p]
def mk4 (a b : List Int) (p : Int) (body : ByteArray) : ByteArray :=
  let h := head4 (20 + body.size) p
  let r := strOfNums a ++ strOfNums b
  let c := sumOf (h ++ ⟨#[0, 0]⟩ ++ r)
  h ++ strOfNums [c / 256, c % 256] ++ r ++ body
theorem sumOf_bounds (s : ByteArray) : 0 ≤ sumOf s ∧ sumOf s < 65536 := by have := cs_le (tot s s.size); unfold sumOf; omega
theorem cat3 (a b c : ByteArray) : cat [a, b, c] = a ++ b ++ c := by
  apply ByteArray.ext; unfold cat; simp [ByteArray.data_append]
theorem cat1 (a : ByteArray) : cat [a] = a := by
  apply ByteArray.ext; unfold cat; simp

theorem strs3 (w : World) (a b c : ByteArray) : StrsAt (w.alloc (.cells #[.string a, .string b, .string c] 9)) (.slice (some ⟨w.heap.size, 0, none⟩) 3 3) [a, b, c] := by
  refine ⟨_, 3, rfl, Nat.le_refl _, by decide, fun i hi => ⟨_, rfl, rfl, ?_⟩⟩
  have hi3 : i = 0 ∨ i = 1 ∨ i = 2 := by simp at hi; omega
  rw [cell_of (heap_alloc_new _ _)]
  rcases hi3 with rfl | rfl | rfl <;> rfl
theorem strs1 (w : World) (a : ByteArray) : StrsAt (w.alloc (.cells #[.string a] 9)) (.slice (some ⟨w.heap.size, 0, none⟩) 1 1) [a] := by
  refine ⟨_, 1, rfl, Nat.le_refl _, by decide, fun i hi => ⟨_, rfl, rfl, ?_⟩⟩
  have hi3 : i = 0 := by simp at hi; omega
  rw [cell_of (heap_alloc_new _ _)]
  subst hi3; rfl

theorem scell {W w1 : World} (hs : Same [] W w1) : (∀ b o, b < W.heap.size → w1.cell? ⟨b, o, none⟩ = W.cell? ⟨b, o, none⟩) ∧ (∀ b o, b < W.heap.size → w1.frozen? ⟨b, o, none⟩ = W.frozen? ⟨b, o, none⟩) :=
  ⟨fun b o h => World.cell?_of_block (hs.block b h (by simp)), fun b o h => hs.frozen (p := ⟨b, o, none⟩) h (by simp)⟩

theorem scell2 {W w1 : World} (hs : Same [] W w1) : ∀ (o : Obj) (b i : Nat), b < W.heap.size → (w1.alloc o).cell? ⟨b, i, none⟩ = W.cell? ⟨b, i, none⟩ :=
  fun o b i h => World.cell?_of_block ((Below.heap_alloc _ _ _ (Nat.lt_of_lt_of_le h hs.size)).trans (hs.block b h (by simp)))

end Go.Proofs.YtdkjcocpkgojaaaDoor.Dg
