/- The example of the chapter on datagrams (awake), and the walk of the law DatagramSums. Condition: no string longer than the reach. -/
import Derived.Test.YtdkjcocpkgojaaaDoorHDgMake4
namespace Go.Proofs.YtdkjcocpkgojaaaDoor.Dg
open Go.RowKit
set_option linter.unusedSimpArgs false
set_option linter.unusedVariables false

def AwakePost (w : World) (e : Ending) (w' : World) : Prop := e = .returned (.bool true) ∧ Same [] w w'
def zero4 : ByteArray := mk4 [0, 0, 0, 0] [0, 0, 0, 0] 17 ⟨#[]⟩
theorem zero4_size : zero4.size = 20 := by decide +kernel
theorem zero4_sum : sumOf zero4 = 0 := by decide +kernel
theorem small_sum : sumOf ⟨#[1, 2, 3]⟩ = 64509 := by decide +kernel

theorem sum_one (s : ByteArray) (w : World) (hs : s.size < 1099511627776) :
    Calls Tryd.prog 45 #[.slice (some ⟨w.heap.size, 0, none⟩) 1 1] (w.alloc (.cells #[.string s] 9)) (Ret (.int .i64 (sumOf s)) (w.alloc (.cells #[.string s] 9))) := by
  have := sum_any _ [s] _ (strs1 w s) (by rw [cat1]; exact hs) (by simp)
  rwa [cat1] at this

theorem few_of {xs : List ByteArray} (h : fewB xs = true) : xs.length ≤ 30 ∧ (cat xs).size ≤ 10000 := by
  unfold fewB at h; simpa using h

end Go.Proofs.YtdkjcocpkgojaaaDoor.Dg
