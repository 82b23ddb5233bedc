/- Plain: a step of the locator's loop keeps what it should; it is never longer than there is wrong. No condition. -/
import Derived.Test.YtahjpjhkbohpnaaDoorMe1
namespace Go.Proofs.YtahjpjhkbohpnaaDoor

theorem mulL_nought (d : List UInt8) (T : Nat → UInt8) : mulL (0 :: d) T = sh (mulL d T) := by
  funext j
  show gm 0 (T j) ^^^ sh (mulL d T) j = _
  rw [zero_gm, zerox]
theorem mulL_sclL (x : UInt8) (c : List UInt8) (T : Nat → UInt8) (j : Nat) : mulL (sclL x c) T j = gm x (mulL c T j) := by
  obtain ⟨t, ht⟩ : ∃ t, t = ofF (j + 1) T := ⟨_, rfl⟩
  have hl : ∀ i, i ≤ j → T i = cf t i := fun i hi => by rw [ht, cf_ofF, if_pos (by omega)]
  rw [mulL_local hl, mulL_local (a := c) hl, mulL_comm, cf_sclL, mulL_scl, mulL_comm t c]; rfl
section
variable {p r : Nat} {G : List UInt8} {S T : Nat → UInt8} {b : Bm} {c d : List UInt8}
theorem gap_T (h : KeptB p G T r b c d) (hT : T = mulL G S) : gapB S r b = mulL c T r := by
  unfold gapB; rw [mulL_prod h.f, mulL_swap, hT]
theorem zo_nought (h : KeptB p G T r b c d) : ∀ j, r + 1 + p + 1 ≤ j + b.long → j < r + 1 → sh (mulL (0 :: d) T) j = 0 := fun j h1 h2 => by
  rw [mulL_nought]
  cases j with
  | zero => rfl
  | succ j => exact h.zo j (by omega) (by omega)
theorem top_nought (h : KeptB p G T r b c d) : b.long = p ∨ sh (mulL (0 :: d) T) (r + 1) = 1 := by
  rcases h.top with h1 | h1
  · exact .inl h1
  · right; rw [mulL_nought]; exact h1
theorem dd_nought (h : KeptB p G T r b c d) : ∀ j, r + 1 < j + b.long → cf (0 :: d) j = 0 := fun j hj => by
  rw [cf_nought]
  cases j with
  | zero => rfl
  | succ j => exact h.dd j (by omega)
theorem o_nought (h : KeptB p G T r b c d) : cf (0 :: b.other) = mulL G (cf (0 :: d)) := by rw [cf_nought, cf_nought, h.o, mulL_sh]
theorem f_upd (h : KeptB p G T r b c d) (g : UInt8) : cf (trimL (addL b.found (0 :: sclL g b.other))) = mulL G (cf (addL c (0 :: sclL g d))) := by
  rw [cf_trim, add_scl, add_scl, h.f, h.o, mulL_pad, mulL_scl, mulL_sh]
theorem one_upd (h : KeptB p G T r b c d) (g : UInt8) : cf (addL c (0 :: sclL g d)) 0 = 1 := by
  rw [add_scl]
  show cf c 0 ^^^ gm g 0 = 1
  rw [gm_zero, xzero, h.one]
theorem kept_step (h : KeptB p G T r b c d) (hT : T = mulL G S) : ∃ c' d', KeptB p G T (r + 1) (stepB p S r b) c' d' := by
  have hg := gap_T h hT
  obtain ⟨g, hgd⟩ : ∃ g, g = gapB S r b := ⟨_, rfl⟩
  unfold stepB
  rw [← hgd] at hg ⊢
  have hlow := h.low
  have hlr := h.lr
  by_cases h0 : g = 0
  · rw [if_pos h0]
    refine ⟨c, 0 :: d, h.f, o_nought h, h.one, h.dc, (by have := dd_nought h; exact this), h.low, Nat.le_succ_of_le h.lr, fun j h1 h2 => ?_, (by have := zo_nought h; exact this), (by have := top_nought h; exact this)⟩
    by_cases hj : j < r
    · exact h.zf j h1 hj
    · obtain rfl : j = r := by omega
      rw [← hg]; exact h0
  · rw [if_neg h0]
    by_cases h2 : 2 * b.long ≤ r + p
    · rw [if_pos h2]
      refine ⟨addL c (0 :: sclL g d), sclL (inv g) c, f_upd h g, ?_, one_upd h g, fun j hj => ?_, fun j hj => ?_, ?_, ?_, fun j h3 h4 => ?_, fun j h3 h4 => ?_, .inr ?_⟩
      · show cf (sclL (inv g) b.found) = _
        rw [cf_sclL, cf_sclL, h.f, mulL_scl]
      · replace hj : r + 1 + p - b.long < j + p := hj
        rw [add_scl]
        show cf c j ^^^ gm g (sh (cf d) j) = 0
        rw [h.dc j (by omega)]
        cases j with
        | zero => show 0 ^^^ gm g 0 = 0; rw [gm_zero, zerox]
        | succ j => show 0 ^^^ gm g (cf d j) = 0; rw [h.dd j (by omega), gm_zero, zerox]
      · replace hj : r + 1 < j + (r + 1 + p - b.long) := hj
        rw [cf_sclL]
        show gm (inv g) (cf c j) = 0
        rw [h.dc j (by omega), gm_zero]
      · show p ≤ r + 1 + p - b.long; omega
      · show r + 1 + p - b.long ≤ r + 1; omega
      · replace h3 : r + 1 + p - b.long ≤ j := h3
        rw [mulL_upd]
        by_cases hj : j < r
        · rw [h.zf j (by omega) hj, h.zo j (by omega) hj, gm_zero]; exact xself 0
        · obtain rfl : j = r := by omega
          rcases h.top with h5 | h5
          · omega
          · rw [h5, ← hg, gm_one]; exact xself g
      · replace h3 : r + 1 + p + 1 ≤ j + (r + 1 + p - b.long) := h3
        cases j with
        | zero => rfl
        | succ j => show mulL (sclL (inv g) c) T j = 0; rw [mulL_sclL, h.zf j (by omega) (by omega), gm_zero]
      · show mulL (sclL (inv g) c) T r = 1
        rw [mulL_sclL, ← hg, gm_comm]; exact gm_inv h0
    · rw [if_neg h2]
      refine ⟨addL c (0 :: sclL g d), 0 :: d, f_upd h g, o_nought h, one_upd h g, fun j hj => ?_, (by have := dd_nought h; exact this), h.low, Nat.le_succ_of_le h.lr, fun j h3 h4 => ?_, (by have := zo_nought h; exact this), (by have := top_nought h; exact this)⟩
      · replace hj : b.long < j + p := hj
        rw [add_scl]
        show cf c j ^^^ gm g (sh (cf d) j) = 0
        rw [h.dc j hj]
        cases j with
        | zero => show 0 ^^^ gm g 0 = 0; rw [gm_zero, zerox]
        | succ j => show 0 ^^^ gm g (cf d j) = 0; rw [h.dd j (by omega), gm_zero, zerox]
      · replace h3 : b.long ≤ j := h3
        rw [mulL_upd]
        by_cases hj : j < r
        · rw [h.zf j h3 hj, h.zo j (by omega) hj, gm_zero]; exact xself 0
        · obtain rfl : j = r := by omega
          rcases h.top with h5 | h5
          · omega
          · rw [h5, ← hg, gm_one]; exact xself g
/-- Something with fewer wrongs would have no gap. -/
theorem kept_gap (h : KeptB p G T r b c d) {a : List UInt8} {v : Nat} (ha1 : cf a 0 = 1) (had : ∀ j, v < j → cf a j = 0) (haz : ∀ j, p + v ≤ j → mulL a T j = 0) (hg : mulL c T r ≠ 0) : r + 1 + p ≤ p + v + b.long := by
  refine Decidable.byContradiction fun hlt => hg ?_
  have hlow := h.low
  have e : mulL c (mulL a T) r = mulL a (mulL c T) r := by rw [mulL_swap]
  rw [mulL_conv, mulL_conv, sx_zero (fun i hi => ?_), sx_single (j := 0) (by omega) (fun i hi hne => ?_)] at e
  · rw [ha1, one_gm] at e; exact e.symm
  · by_cases h1 : v < i
    · rw [had i h1, zero_gm]
    · rw [h.zf (r - i) (by omega) (by omega), gm_zero]
  · by_cases h1 : b.long < i + p
    · rw [h.dc i h1, zero_gm]
    · rw [haz (r - i) (by omega), gm_zero]
theorem kept_long (h : KeptB p G T r b c d) (hT : T = mulL G S) {a : List UInt8} {v : Nat} (ha1 : cf a 0 = 1) (had : ∀ j, v < j → cf a j = 0) (haz : ∀ j, p + v ≤ j → mulL a T j = 0) (hl : b.long ≤ p + v) : (stepB p S r b).long ≤ p + v := by
  have hg := gap_T h hT
  unfold stepB
  split
  · exact hl
  · rename_i h0
    split
    · have := kept_gap h ha1 had haz (by rw [← hg]; exact h0)
      show r + 1 + p - b.long ≤ p + v; omega
    · exact hl
end
end Go.Proofs.YtahjpjhkbohpnaaDoor
