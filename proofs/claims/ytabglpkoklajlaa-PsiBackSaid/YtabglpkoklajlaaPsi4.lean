/- The chapter's example (awake). No condition. -/
import Derived.Test.YtabglpkoklajlaaPsi3
namespace Go.Proofs.Ytabglpkoklajlaa
open Go.RowKit
set_option linter.unusedSimpArgs false
set_option linter.unusedVariables false

def AwakePost (w : World) (e : Ending) (w' : World) : Prop := e = .returned (.bool true) ∧ Same [] w w'

theorem tab_awake : tabS 0 1 0 (patS [(5, 256)]) = ⟨#[0, 176, 13, 0, 1, 193, 0, 0, 0, 5, 225, 0]⟩ := by decide +kernel
theorem extract_front (T c : ByteArray) : (T ++ c).extract 0 T.size = T := by
  rw [ByteArray.extract_append]
  simp

set_option maxRecDepth 100000 in
set_option maxHeartbeats 1000000 in
theorem awake_any (w : World) : Calls Try.prog 7 #[] w (AwakePost w) := by
  have hb := heap_alloc_new w (.cells #[.int .i64 5, .int .i64 256] 50)
  have he : Calls Try.prog 10 #[.agg #[.int .i64 1, .int .i64 0, .slice (some ⟨w.heap.size, 0, none⟩) 1 1]] (w.alloc (.cells #[.int .i64 5, .int .i64 256] 50)) (SealedPost (w.alloc (.cells #[.int .i64 5, .int .i64 256] 50)) (tabS 0 1 0 (patS [(5, 256)]))) :=
    encodePat_ok 1 0 [(5, 256)] w.heap.size 0 1 _ (fun k h => by
      have hk0 : k = 0 := by simpa using h
      subst hk0
      exact ⟨(cell_of hb 0).trans rfl, (cell_of hb 1).trans rfl⟩) (by simp) ⟨by decide, by decide, by decide, by decide, by simp⟩ (by simp) (by simp)
  have hz := size_tabS 0 1 0 (patS [(5, 256)])
  rw [size_patS] at hz
  have hz : (tabS 0 1 0 (patS [(5, 256)])).size = 12 := hz
  have ht := tab_awake
  have HE := Lib.hid he
  generalize tabS 0 1 0 (patS [(5, 256)]) = T at *
  have HT := Lib.hid ht
  clear he hb ht
  go_enter Try.func7, Try.ntmps7
  go_wp2_with fail
  (with_reducible refine HE.out.mono ?_)
  rintro e w1 h
  rcases h with ⟨z1, c, hc, he, hs⟩ | ⟨z1, rfl, hs⟩
  · have hsz : (T ++ c).size = 16 := by rw [ByteArray.size_append, hc, hz]
    have hx : (T ++ c).extract 0 12 = T := by rw [← hz]; exact extract_front T c
    obtain ⟨U, hU⟩ : ∃ U, U = T ++ c := ⟨_, rfl⟩
    rw [← hU] at he hsz hx
    subst he
    have HS := Lib.hid hs
    rw [HT.out] at hx
    clear hs z1 hc hU HE hz HT
    go_wp2_with fail
    go_ret
    exact ⟨rfl, ((Same.refl [] w).alloc _).trans_nil HS.out⟩
  · omega

end Go.Proofs.Ytabglpkoklajlaa
