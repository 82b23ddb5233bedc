/- What the laws of layer 02 call: few, awake, sums of two and three, the division by its law. Condition: the reach of strings. -/
import Derived.Test.YtahjpjhkbohpnaaDoorFPe1
namespace Go.Proofs.YtahjpjhkbohpnaaDoor
open Go.RowKit
set_option linter.unusedSimpArgs false
set_option linter.unusedVariables false

theorem padd2 (M : Nat) (a b : ByteArray) (W : World) (hM : M < 274877906944) (ha : a.size ≤ M) (hb : b.size ≤ M) :
    Calls Tryd.prog 51 #[.slice (some ⟨W.heap.size, 0, none⟩) 2 2] (W.alloc (.cells #[.string a, .string b] 9)) (Ret (.string (addS a b)) (W.alloc (.cells #[.string a, .string b] 9))) :=
  padd_any M [a, b] _ _ (texts_two W a b) hM (by intro x hx; simp at hx; rcases hx with rfl | rfl <;> assumption)
theorem padd3 (M : Nat) (a b c : ByteArray) (W : World) (hM : M < 274877906944) (ha : a.size ≤ M) (hb : b.size ≤ M) (hc : c.size ≤ M) :
    Calls Tryd.prog 51 #[.slice (some ⟨W.heap.size, 0, none⟩) 3 3] (W.alloc (.cells #[.string a, .string b, .string c] 9)) (Ret (.string (addS (addS a b) c)) (W.alloc (.cells #[.string a, .string b, .string c] 9))) := by
  have := padd_any M [a, b, c] _ _ (texts_three W a b c) hM (by intro x hx; simp at hx; rcases hx with rfl | rfl | rfl <;> assumption)
  rwa [sumS_three] at this
theorem padd0 (W : World) : Calls Tryd.prog 51 #[.slice none 0 0] W (Ret (.string ⟨#[]⟩) W) :=
  padd_any 0 [] _ _ (texts_nil W) (by decide) (by intro x hx; simp at hx)
theorem degree_t (s : ByteArray) (w : World) (hs : s.size ≤ 9223372036854775807) :
    Calls Tryd.prog 42 #[.string s] w fun e w' => e = .returned (.int .i64 (((trimS s).size : Int) - 1)) ∧ w = w' := by
  have := degree_any s w hs
  unfold degS at this
  rwa [← trimS_len] at this

end Go.Proofs.YtahjpjhkbohpnaaDoor
