/- Slices of numbers as arguments, and what the law RsApart says. No condition. -/
import Derived.Test.YtahjpjhkbohpnaaDoorFRs6
import Derived.Deep.RegionLaw
namespace Go.Proofs.YtahjpjhkbohpnaaDoor
open Go.RowKit
set_option linter.unusedSimpArgs false
set_option linter.unusedVariables false

/-- A slice of numbers. -/
def NumsAt (w : World) (v : Value) (xs : List Int) : Prop :=
  ∃ ad c, v = .slice ad xs.length c ∧ xs.length ≤ c ∧ c ≤ maxLen ∧ ∀ (i : Nat) (h : i < xs.length), ∃ a : Addr, ad = some a ∧ a.spot = none ∧ w.cell? ⟨a.block, a.off + i, none⟩ = some (.int .i64 xs[i])
theorem rowF_set {w : World} {v : Value} {g : Nat} {l : List UInt8} (h : RowF w v g (u8l l)) (i : Nat) (hi : i < l.length) (x : UInt8) : RowF (w.setCell ⟨g, i, none⟩ (.int .u8 (x.toNat : Int))) v g (u8l (l.set i x)) := by
  obtain ⟨cap, rfl, h1, h2, h3, h4⟩ := h
  have hcell : ∀ j, (w.setCell ⟨g, i, none⟩ (.int .u8 (x.toNat : Int))).cell? ⟨g, j, none⟩ = if j = i then some (.int .u8 (x.toNat : Int)) else w.cell? ⟨g, j, none⟩ := fun j => by
    rw [u8l_length] at h1
    obtain ⟨u, hu⟩ := Option.isSome_iff_exists.1 (h4 i (by omega)).1
    obtain ⟨cells, t, fz, hb⟩ : ∃ cells t fz, w.heap[g]? = some (.cells cells t fz) := by
      unfold World.cell? at hu
      simp only at hu
      split at hu
      · rename_i c t f hh; exact ⟨_, _, _, hh⟩
      · cases hu
    rw [cell_of (set_same hb _), cell_of hb]
    by_cases e : j = i
    · subst e
      rw [if_pos rfl, Array.getElem?_setIfInBounds_self_of_lt]
      rw [cell_of hb] at hu
      exact (Array.getElem?_eq_some_iff.1 hu).1
    · rw [if_neg e, Array.getElem?_setIfInBounds_ne (by omega)]
  refine ⟨cap, by simp [u8l], by simpa [u8l] using h1, h2, fun j u hj => ?_, fun j hj => ?_⟩
  · rw [hcell]
    have hjl : j < l.length := by have := (List.getElem?_eq_some_iff.1 hj).1; simpa [u8l] using this
    by_cases e : j = i
    · subst e
      rw [if_pos rfl, ← hj]
      simp [u8l, u8v, hjl]
    · rw [if_neg e]
      refine h3 j u ?_
      rw [← hj]
      simp only [u8l, List.getElem?_map]
      rw [List.getElem?_set_ne (by omega)]
  · constructor
    · rw [hcell]; split
      · rfl
      · exact (h4 j hj).1
    · rw [World.frozen?_setCell]; exact (h4 j hj).2
theorem same_word {L U : List UInt8} (hU : IsW U) (hl : L.length = 255) (S : List Nat) (hS : S.length ≤ 64) (h : ∀ j, j ∉ S → cf L j = cf U j) : isB (bs L) = decide (bs L = bs U) := by
  rw [Bool.eq_iff_iff, isB_true, decide_eq_true_eq, lb_bs, bs_inj]
  constructor
  · intro hL
    have hz := apart (word_xor hL hU) S hS (fun i hi hne => Decidable.byContradiction fun hm => hne (by
      unfold xorL; rw [cf_ofF, if_pos hi, h i hm, xself]))
    refine ext_cf (by rw [hl, hU.1]) ?_
    funext i
    by_cases hi : i < 255
    · have h1 := hz i
      unfold xorL at h1
      rw [cf_ofF, if_pos hi] at h1
      exact UInt8.xor_eq_zero_iff.1 h1
    · rw [cf_ge (by rw [hl]; omega), cf_ge (by rw [hU.1]; omega)]
  · rintro rfl; exact hU
/-- One place more is turned. -/
theorem turn_one {L : List UInt8} {U : Nat → UInt8} {xs : List Int} {k n : Nat} {z : UInt8} (hk : k < xs.length) (hx : xs[k] = (n : Int)) (hn : n < L.length) (h : ∀ j, j ∉ (xs.take k).map Int.toNat → cf L j = U j) :
    ∀ j, j ∉ (xs.take (k + 1)).map Int.toNat → cf (L.set n z) j = U j := by
  intro j hj
  rw [List.take_succ_eq_append_getElem hk, List.map_append, List.mem_append, not_or] at hj
  rw [cf_set hn]
  have hne : j ≠ n := by
    intro e
    apply hj.2
    rw [hx]
    simp [e]
  rw [if_neg hne]
  exact h j hj.1
end Go.Proofs.YtahjpjhkbohpnaaDoor
