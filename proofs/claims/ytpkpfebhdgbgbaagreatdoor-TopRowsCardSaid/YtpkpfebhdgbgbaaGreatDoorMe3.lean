/- Plain: what the loop of the locator keeps (Berlekamp's and Massey's, with erasures). No condition. Plain: a step of the locator's loop keeps what it should; it is never longer than there is wrong. No condition. Plain: the whole loop, and where what it found is 0. No condition. -/
import Derived.Test.YtpkpfebhdgbgbaaGreatDoorRs1
namespace Go.Proofs.YtpkpfebhdgbgbaaGreatDoor

theorem mulL_local {a : List UInt8} {f g : Nat → UInt8} {n : Nat} (h : ∀ i, i ≤ n → f i = g i) : mulL a f n = mulL a g n := by
  rw [mulL_conv, mulL_conv]
  exact sx_congr fun i _ => by rw [h (n - i) (Nat.sub_le _ _)]
/-- A product's list, taken on a series. -/
theorem mulL_prod {f a c : List UInt8} (h : cf f = mulL a (cf c)) (S : Nat → UInt8) : mulL f S = mulL a (mulL c S) := by
  funext n
  obtain ⟨g, hg⟩ : ∃ g, g = ofF (n + 1) S := ⟨_, rfl⟩
  have hl : ∀ i, i ≤ n → S i = cf g i := fun i hi => by rw [hg, cf_ofF, if_pos (by omega)]
  rw [mulL_local hl, mulL_local (a := a) (fun i hi => mulL_local (a := c) (fun j hj => hl j (by omega)))]
  rw [mulL_comm f g, h, mulL_swap g a, mulL_comm g c]
theorem mulL_cf0 {a : List UInt8} {f : Nat → UInt8} : mulL a f 0 = gm (cf a 0) (f 0) := by
  rw [mulL_conv]; show 0 ^^^ gm (cf a 0) (f (0 - 0)) = _; rw [zerox]
def sclL (x : UInt8) (l : List UInt8) : List UInt8 := l.map fun a => gm a x
theorem cf_sclL (x : UInt8) (l : List UInt8) : cf (sclL x l) = scl x (cf l) := by
  funext i
  show _ = gm x (cf l i)
  by_cases h : i < l.length
  · rw [cf_lt (by unfold sclL; rw [List.length_map]; exact h), cf_lt h, gm_comm]
    unfold sclL; rw [List.getElem_map]
  · rw [cf_ge (by unfold sclL; rw [List.length_map]; omega), cf_ge (by omega), gm_zero]
theorem cf_nought (l : List UInt8) : cf (0 :: l) = sh (cf l) := by
  funext i
  cases i with
  | zero => rfl
  | succ i => rfl

/-- What the loop has: the polynomial that it found, the other one, and how long it is. -/
structure Bm where
  found : List UInt8
  other : List UInt8
  long : Nat
def gapB (S : Nat → UInt8) (r : Nat) (b : Bm) : UInt8 := mulL b.found S r
def stepB (p : Nat) (S : Nat → UInt8) (r : Nat) (b : Bm) : Bm :=
  if gapB S r b = 0 then ⟨b.found, 0 :: b.other, b.long⟩
  else if 2 * b.long ≤ r + p then ⟨trimL (addL b.found (0 :: sclL (gapB S r b) b.other)), sclL (inv (gapB S r b)) b.found, r + 1 + p - b.long⟩
  else ⟨trimL (addL b.found (0 :: sclL (gapB S r b) b.other)), 0 :: b.other, b.long⟩
def runB (p : Nat) (S : Nat → UInt8) : Nat → Nat → Bm → Bm
  | _, 0, b => b
  | r, n + 1, b => runB p S (r + 1) n (stepB p S r b)
/-- What it keeps: T is the series times what is known. -/
structure KeptB (p : Nat) (G : List UInt8) (T : Nat → UInt8) (r : Nat) (b : Bm) (c d : List UInt8) : Prop where
  f : cf b.found = mulL G (cf c)
  o : cf b.other = mulL G (cf d)
  one : cf c 0 = 1
  dc : ∀ j, b.long < j + p → cf c j = 0
  dd : ∀ j, r < j + b.long → cf d j = 0
  low : p ≤ b.long
  lr : b.long ≤ r
  zf : ∀ j, b.long ≤ j → j < r → mulL c T j = 0
  zo : ∀ j, r + p + 1 ≤ j + b.long → j < r → sh (mulL d T) j = 0
  top : b.long = p ∨ sh (mulL d T) r = 1

theorem add_scl {c d : List UInt8} (g : UInt8) : cf (addL c (0 :: sclL g d)) = pad (cf c) (scl g (sh (cf d))) := by
  rw [cf_addL, cf_nought, cf_sclL]
  congr 1
  funext i
  cases i with
  | zero => show (0 : UInt8) = gm g 0; rw [gm_zero]
  | succ i => rfl
theorem mulL_upd {c d : List UInt8} (g : UInt8) (T : Nat → UInt8) (j : Nat) : mulL (addL c (0 :: sclL g d)) T j = mulL c T j ^^^ gm g (sh (mulL d T) j) := by
  have h : ∀ l : List UInt8, ∀ i, i ≤ j → T i = cf (ofF (j + 1) T) i := fun l i hi => by rw [cf_ofF, if_pos (by omega)]
  obtain ⟨t, ht⟩ : ∃ t, t = ofF (j + 1) T := ⟨_, rfl⟩
  have hl : ∀ i, i ≤ j → T i = cf t i := fun i hi => by rw [ht, cf_ofF, if_pos (by omega)]
  have hd : sh (mulL d T) j = sh (mulL d (cf t)) j := by
    cases j with
    | zero => rfl
    | succ j => exact mulL_local fun i hi => hl i (by omega)
  rw [mulL_local hl, mulL_comm, add_scl, mulL_pad, mulL_scl, mulL_sh, mulL_local (a := c) hl, hd, mulL_comm t c, mulL_comm t d]
  rfl
end Go.Proofs.YtpkpfebhdgbgbaaGreatDoor
namespace Go.Proofs.YtpkpfebhdgbgbaaGreatDoor

theorem mulL_nought (d : List UInt8) (T : Nat → UInt8) : mulL (0 :: d) T = sh (mulL d T) := by
  funext j
  show gm 0 (T j) ^^^ sh (mulL d T) j = _
  rw [zero_gm, zerox]
theorem mulL_sclL (x : UInt8) (c : List UInt8) (T : Nat → UInt8) (j : Nat) : mulL (sclL x c) T j = gm x (mulL c T j) := by
  obtain ⟨t, ht⟩ : ∃ t, t = ofF (j + 1) T := ⟨_, rfl⟩
  have hl : ∀ i, i ≤ j → T i = cf t i := fun i hi => by rw [ht, cf_ofF, if_pos (by omega)]
  rw [mulL_local hl, mulL_local (a := c) hl, mulL_comm, cf_sclL, mulL_scl, mulL_comm t c]; rfl
section
variable {p r : Nat} {G : List UInt8} {S T : Nat → UInt8} {b : Bm} {c d : List UInt8}
theorem gap_T (h : KeptB p G T r b c d) (hT : T = mulL G S) : gapB S r b = mulL c T r := by
  unfold gapB; rw [mulL_prod h.f, mulL_swap, hT]
theorem zo_nought (h : KeptB p G T r b c d) : ∀ j, r + 1 + p + 1 ≤ j + b.long → j < r + 1 → sh (mulL (0 :: d) T) j = 0 := fun j h1 h2 => by
  rw [mulL_nought]
  cases j with
  | zero => rfl
  | succ j => exact h.zo j (by omega) (by omega)
theorem top_nought (h : KeptB p G T r b c d) : b.long = p ∨ sh (mulL (0 :: d) T) (r + 1) = 1 := by
  rcases h.top with h1 | h1
  · exact .inl h1
  · right; rw [mulL_nought]; exact h1
theorem dd_nought (h : KeptB p G T r b c d) : ∀ j, r + 1 < j + b.long → cf (0 :: d) j = 0 := fun j hj => by
  rw [cf_nought]
  cases j with
  | zero => rfl
  | succ j => exact h.dd j (by omega)
theorem o_nought (h : KeptB p G T r b c d) : cf (0 :: b.other) = mulL G (cf (0 :: d)) := by rw [cf_nought, cf_nought, h.o, mulL_sh]
theorem f_upd (h : KeptB p G T r b c d) (g : UInt8) : cf (trimL (addL b.found (0 :: sclL g b.other))) = mulL G (cf (addL c (0 :: sclL g d))) := by
  rw [cf_trim, add_scl, add_scl, h.f, h.o, mulL_pad, mulL_scl, mulL_sh]
theorem one_upd (h : KeptB p G T r b c d) (g : UInt8) : cf (addL c (0 :: sclL g d)) 0 = 1 := by
  rw [add_scl]
  show cf c 0 ^^^ gm g 0 = 1
  rw [gm_zero, xzero, h.one]
theorem kept_step (h : KeptB p G T r b c d) (hT : T = mulL G S) : ∃ c' d', KeptB p G T (r + 1) (stepB p S r b) c' d' := by
  have hg := gap_T h hT
  obtain ⟨g, hgd⟩ : ∃ g, g = gapB S r b := ⟨_, rfl⟩
  unfold stepB
  rw [← hgd] at hg ⊢
  have hlow := h.low
  have hlr := h.lr
  by_cases h0 : g = 0
  · rw [if_pos h0]
    refine ⟨c, 0 :: d, h.f, o_nought h, h.one, h.dc, (by have := dd_nought h; exact this), h.low, Nat.le_succ_of_le h.lr, fun j h1 h2 => ?_, (by have := zo_nought h; exact this), (by have := top_nought h; exact this)⟩
    by_cases hj : j < r
    · exact h.zf j h1 hj
    · obtain rfl : j = r := by omega
      rw [← hg]; exact h0
  · rw [if_neg h0]
    by_cases h2 : 2 * b.long ≤ r + p
    · rw [if_pos h2]
      refine ⟨addL c (0 :: sclL g d), sclL (inv g) c, f_upd h g, ?_, one_upd h g, fun j hj => ?_, fun j hj => ?_, ?_, ?_, fun j h3 h4 => ?_, fun j h3 h4 => ?_, .inr ?_⟩
      · show cf (sclL (inv g) b.found) = _
        rw [cf_sclL, cf_sclL, h.f, mulL_scl]
      · replace hj : r + 1 + p - b.long < j + p := hj
        rw [add_scl]
        show cf c j ^^^ gm g (sh (cf d) j) = 0
        rw [h.dc j (by omega)]
        cases j with
        | zero => show 0 ^^^ gm g 0 = 0; rw [gm_zero, zerox]
        | succ j => show 0 ^^^ gm g (cf d j) = 0; rw [h.dd j (by omega), gm_zero, zerox]
      · replace hj : r + 1 < j + (r + 1 + p - b.long) := hj
        rw [cf_sclL]
        show gm (inv g) (cf c j) = 0
        rw [h.dc j (by omega), gm_zero]
      · show p ≤ r + 1 + p - b.long; omega
      · show r + 1 + p - b.long ≤ r + 1; omega
      · replace h3 : r + 1 + p - b.long ≤ j := h3
        rw [mulL_upd]
        by_cases hj : j < r
        · rw [h.zf j (by omega) hj, h.zo j (by omega) hj, gm_zero]; exact xself 0
        · obtain rfl : j = r := by omega
          rcases h.top with h5 | h5
          · omega
          · rw [h5, ← hg, gm_one]; exact xself g
      · replace h3 : r + 1 + p + 1 ≤ j + (r + 1 + p - b.long) := h3
        cases j with
        | zero => rfl
        | succ j => show mulL (sclL (inv g) c) T j = 0; rw [mulL_sclL, h.zf j (by omega) (by omega), gm_zero]
      · show mulL (sclL (inv g) c) T r = 1
        rw [mulL_sclL, ← hg, gm_comm]; exact gm_inv h0
    · rw [if_neg h2]
      refine ⟨addL c (0 :: sclL g d), 0 :: d, f_upd h g, o_nought h, one_upd h g, fun j hj => ?_, (by have := dd_nought h; exact this), h.low, Nat.le_succ_of_le h.lr, fun j h3 h4 => ?_, (by have := zo_nought h; exact this), (by have := top_nought h; exact this)⟩
      · replace hj : b.long < j + p := hj
        rw [add_scl]
        show cf c j ^^^ gm g (sh (cf d) j) = 0
        rw [h.dc j hj]
        cases j with
        | zero => show 0 ^^^ gm g 0 = 0; rw [gm_zero, zerox]
        | succ j => show 0 ^^^ gm g (cf d j) = 0; rw [h.dd j (by omega), gm_zero, zerox]
      · replace h3 : b.long ≤ j := h3
        rw [mulL_upd]
        by_cases hj : j < r
        · rw [h.zf j h3 hj, h.zo j (by omega) hj, gm_zero]; exact xself 0
        · obtain rfl : j = r := by omega
          rcases h.top with h5 | h5
          · omega
          · rw [h5, ← hg, gm_one]; exact xself g
/-- Something with fewer wrongs would have no gap. -/
theorem kept_gap (h : KeptB p G T r b c d) {a : List UInt8} {v : Nat} (ha1 : cf a 0 = 1) (had : ∀ j, v < j → cf a j = 0) (haz : ∀ j, p + v ≤ j → mulL a T j = 0) (hg : mulL c T r ≠ 0) : r + 1 + p ≤ p + v + b.long := by
  refine Decidable.byContradiction fun hlt => hg ?_
  have hlow := h.low
  have e : mulL c (mulL a T) r = mulL a (mulL c T) r := by rw [mulL_swap]
  rw [mulL_conv, mulL_conv, sx_zero (fun i hi => ?_), sx_single (j := 0) (by omega) (fun i hi hne => ?_)] at e
  · rw [ha1, one_gm] at e; exact e.symm
  · by_cases h1 : v < i
    · rw [had i h1, zero_gm]
    · rw [h.zf (r - i) (by omega) (by omega), gm_zero]
  · by_cases h1 : b.long < i + p
    · rw [h.dc i h1, zero_gm]
    · rw [haz (r - i) (by omega), gm_zero]
theorem kept_long (h : KeptB p G T r b c d) (hT : T = mulL G S) {a : List UInt8} {v : Nat} (ha1 : cf a 0 = 1) (had : ∀ j, v < j → cf a j = 0) (haz : ∀ j, p + v ≤ j → mulL a T j = 0) (hl : b.long ≤ p + v) : (stepB p S r b).long ≤ p + v := by
  have hg := gap_T h hT
  unfold stepB
  split
  · exact hl
  · rename_i h0
    split
    · have := kept_gap h ha1 had haz (by rw [← hg]; exact h0)
      show r + 1 + p - b.long ≤ p + v; omega
    · exact hl
end
end Go.Proofs.YtpkpfebhdgbgbaaGreatDoor
namespace Go.Proofs.YtpkpfebhdgbgbaaGreatDoor

theorem kept_start (p : Nat) (G : List UInt8) (T : Nat → UInt8) : KeptB p G T p ⟨G, G, p⟩ [1] [1] := by
  have h1 : cf G = mulL G (cf [1]) := by rw [mulL_comm, mulL_single, scl_one]
  have h2 : ∀ j, p < j + p → cf [1] j = 0 := fun j hj => cf_ge (by show 1 ≤ j; omega)
  exact ⟨h1, h1, rfl, h2, h2, Nat.le_refl _, Nat.le_refl _, fun j h3 h4 => absurd h3 (by show ¬ p ≤ j; omega), fun j h3 h4 => absurd h3 (by show ¬ p + p + 1 ≤ j + p; omega), .inl rfl⟩
theorem kept_run {p : Nat} {G : List UInt8} {S T : Nat → UInt8} (hT : T = mulL G S) (n : Nat) : ∀ {r : Nat} {b : Bm} {c d : List UInt8}, KeptB p G T r b c d → ∃ c' d', KeptB p G T (r + n) (runB p S r n b) c' d' := by
  induction n with
  | zero => intro r b c d h; exact ⟨c, d, h⟩
  | succ n ih =>
    intro r b c d h
    obtain ⟨c1, d1, h1⟩ := kept_step h hT
    obtain ⟨c2, d2, h2⟩ := ih h1
    refine ⟨c2, d2, ?_⟩
    rw [show r + (n + 1) = r + 1 + n by omega]
    exact h2
theorem run_long {p : Nat} {G : List UInt8} {S T : Nat → UInt8} (hT : T = mulL G S) {a : List UInt8} {v : Nat} (ha1 : cf a 0 = 1) (had : ∀ j, v < j → cf a j = 0) (haz : ∀ j, p + v ≤ j → mulL a T j = 0) (n : Nat) :
    ∀ {r : Nat} {b : Bm} {c d : List UInt8}, KeptB p G T r b c d → b.long ≤ p + v → (runB p S r n b).long ≤ p + v := by
  induction n with
  | zero => intro r b c d h hl; exact hl
  | succ n ih =>
    intro r b c d h hl
    obtain ⟨c1, d1, h1⟩ := kept_step h hT
    exact ih h1 (kept_long h hT ha1 had haz hl)
/-- What was found is 0 where the true one is. -/
theorem bm_zero {p v : Nat} {G : List UInt8} {T : Nat → UInt8} {b : Bm} {c d a : List UInt8} (h : KeptB p G T 64 b c d) (had : ∀ j, v < j → cf a j = 0) (haz : ∀ j, p + v ≤ j → mulL a T j = 0)
    (hl : b.long ≤ p + v) (hv : p + 2 * v ≤ 64) {x : UInt8} (hx : ev a x = 0) (hne : evn (p + v) (mulL a T) x ≠ 0) : ev c x = 0 := by
  have hlow := h.low
  obtain ⟨N, hN⟩ : ∃ N : Nat → UInt8, N = fun j => if j < b.long then mulL c T j else 0 := ⟨_, rfl⟩
  have hNz : ∀ j, b.long ≤ j → N j = 0 := fun j hj => by rw [hN]; show (if j < b.long then _ else _) = _; rw [if_neg (by omega)]
  have hN64 : ∀ j, j < 64 → mulL c T j = N j := fun j hj => by
    rw [hN]
    show _ = (if j < b.long then mulL c T j else 0)
    split
    · rfl
    · exact h.zf j (by omega) hj
  have e : mulL c (mulL a T) = mulL a N := by
    funext j
    by_cases hj : j < 64
    · rw [mulL_swap]; exact mulL_local fun i hi => hN64 i (by omega)
    · rw [mulL_conv, mulL_conv, sx_zero (fun i hi => ?_), sx_zero (fun i hi => ?_)]
      · by_cases h1 : v < i
        · rw [had i h1, zero_gm]
        · rw [hNz (j - i) (by omega), gm_zero]
      · by_cases h1 : b.long < i + p
        · rw [h.dc i h1, zero_gm]
        · rw [haz (j - i) (by omega), gm_zero]
  have e1 := evn_mul c (mulL a T) (p + v) (c.length + (p + v) + (a.length + b.long)) x haz (by omega)
  have e2 := evn_mul a N b.long (c.length + (p + v) + (a.length + b.long)) x hNz (by omega)
  rw [e, e2, hx, zero_gm] at e1
  rcases gm_eq_zero.1 e1.symm with h3 | h3
  · exact h3
  · exact absurd h3 hne

/-- A polynomial without one of its roots. -/
def quo (r : UInt8) : List UInt8 → List UInt8
  | [] => []
  | _ :: l => ev l r :: quo r l
theorem quo_cf (r : UInt8) (f : List UInt8) (j : Nat) : cf f j = (if j = 0 then ev f r else 0) ^^^ (gm r (cf (quo r f) j) ^^^ sh (cf (quo r f)) j) := by
  induction f generalizing j with
  | nil => cases j <;> simp [quo, cf_nil, ev, pz, sh, gm_zero]
  | cons c l ih =>
    cases j with
    | zero =>
      rw [cf_zero, if_pos rfl]
      show c = (c ^^^ gm r (ev l r)) ^^^ (gm r (cf (ev l r :: quo r l) 0) ^^^ 0)
      rw [cf_zero, xzero, xassoc, xself, xzero]
    | succ j =>
      rw [cf_succ, if_neg (by omega), zerox]
      show cf l j = gm r (cf (ev l r :: quo r l) (j + 1)) ^^^ cf (ev l r :: quo r l) j
      rw [cf_succ, ih j]
      cases j with
      | zero =>
        rw [if_pos rfl, cf_zero]
        show ev l r ^^^ (gm r (cf (quo r l) 0) ^^^ 0) = _
        rw [xzero, xcomm]
      | succ j =>
        rw [if_neg (by omega), zerox, cf_succ]; rfl
theorem quo_ev (r x : UInt8) (f : List UInt8) : ev f x = ev f r ^^^ gm (r ^^^ x) (ev (quo r f) x) := by
  induction f with
  | nil => show (0 : UInt8) = 0 ^^^ gm (r ^^^ x) 0; rw [gm_zero]; exact (xself 0).symm
  | cons c l ih =>
    show c ^^^ gm x (ev l x) = (c ^^^ gm r (ev l r)) ^^^ gm (r ^^^ x) (ev l r ^^^ gm x (ev (quo r l) x))
    rw [gm_xor, xor_gm r x (ev l r), gm_left_comm, ih, gm_xor]
    obtain ⟨A, hA⟩ : ∃ A, A = gm r (ev l r) := ⟨_, rfl⟩
    obtain ⟨B, hB⟩ : ∃ B, B = gm x (ev l r) := ⟨_, rfl⟩
    obtain ⟨C, hC⟩ : ∃ C, C = gm x (gm (r ^^^ x) (ev (quo r l) x)) := ⟨_, rfl⟩
    rw [← hA, ← hB, ← hC, xassoc c A, xassoc A B C, xcancel]
theorem quo_deg (r : UInt8) (f : List UInt8) (n : Nat) (h : ∀ j, n + 1 ≤ j → cf f j = 0) : ∀ j, n ≤ j → cf (quo r f) j = 0 := by
  induction f generalizing n with
  | nil => intro j _; exact cf_ge (Nat.zero_le _)
  | cons c l ih =>
    intro j hj
    have hl : ∀ i, n ≤ i → cf l i = 0 := fun i hi => by have := h (i + 1) (by omega); rwa [cf_succ] at this
    cases j with
    | zero =>
      obtain rfl : n = 0 := by omega
      show ev l r = 0
      exact ev_pz r (funext fun i => hl i (Nat.zero_le _))
    | succ j =>
      show cf (quo r l) j = 0
      cases n with
      | zero => exact ih 0 (fun i hi => hl i (by omega)) j (by omega)
      | succ n => exact ih n (fun i hi => hl i hi) j (by omega)
/-- As many roots as coefficients: nought. -/
theorem few_roots (R : List UInt8) : ∀ (f : List UInt8), R.Nodup → (∀ j, R.length ≤ j → cf f j = 0) → (∀ x ∈ R, ev f x = 0) → cf f = pz := by
  induction R with
  | nil => intro f _ h _; exact funext fun j => h j (Nat.zero_le _)
  | cons r R ih =>
    intro f hn h hx
    obtain ⟨hr, hn⟩ := List.nodup_cons.1 hn
    have h0 := hx r List.mem_cons_self
    have hq := ih (quo r f) hn (quo_deg r f R.length (fun j hj => h j (by rw [List.length_cons]; exact hj))) (fun x hm => by
      have h1 := hx x (List.mem_cons_of_mem _ hm)
      rw [quo_ev r x f, h0, zerox] at h1
      rcases gm_eq_zero.1 h1 with h2 | h2
      · have : r = x := xeq_zero.1 h2
        subst this; exact absurd hm hr
      · exact h2)
    funext j
    rw [quo_cf r f j, h0, hq, ite_self, zerox]
    cases j with
    | zero => show gm r 0 ^^^ 0 = 0; rw [gm_zero, xzero]
    | succ j => show gm r 0 ^^^ 0 = 0; rw [gm_zero, xzero]
end Go.Proofs.YtpkpfebhdgbgbaaGreatDoor
