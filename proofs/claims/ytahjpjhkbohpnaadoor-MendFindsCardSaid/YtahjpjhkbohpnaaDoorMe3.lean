/- Plain: the whole loop, and where what it found is 0. No condition. -/
import Derived.Test.YtahjpjhkbohpnaaDoorMe2
namespace Go.Proofs.YtahjpjhkbohpnaaDoor

theorem kept_start (p : Nat) (G : List UInt8) (T : Nat → UInt8) : KeptB p G T p ⟨G, G, p⟩ [1] [1] := by
  have h1 : cf G = mulL G (cf [1]) := by rw [mulL_comm, mulL_single, scl_one]
  have h2 : ∀ j, p < j + p → cf [1] j = 0 := fun j hj => cf_ge (by show 1 ≤ j; omega)
  exact ⟨h1, h1, rfl, h2, h2, Nat.le_refl _, Nat.le_refl _, fun j h3 h4 => absurd h3 (by show ¬ p ≤ j; omega), fun j h3 h4 => absurd h3 (by show ¬ p + p + 1 ≤ j + p; omega), .inl rfl⟩
theorem kept_run {p : Nat} {G : List UInt8} {S T : Nat → UInt8} (hT : T = mulL G S) (n : Nat) : ∀ {r : Nat} {b : Bm} {c d : List UInt8}, KeptB p G T r b c d → ∃ c' d', KeptB p G T (r + n) (runB p S r n b) c' d' := by
  induction n with
  | zero => intro r b c d h; exact ⟨c, d, h⟩
  | succ n ih =>
    intro r b c d h
    obtain ⟨c1, d1, h1⟩ := kept_step h hT
    obtain ⟨c2, d2, h2⟩ := ih h1
    refine ⟨c2, d2, ?_⟩
    rw [show r + (n + 1) = r + 1 + n by omega]
    exact h2
theorem run_long {p : Nat} {G : List UInt8} {S T : Nat → UInt8} (hT : T = mulL G S) {a : List UInt8} {v : Nat} (ha1 : cf a 0 = 1) (had : ∀ j, v < j → cf a j = 0) (haz : ∀ j, p + v ≤ j → mulL a T j = 0) (n : Nat) :
    ∀ {r : Nat} {b : Bm} {c d : List UInt8}, KeptB p G T r b c d → b.long ≤ p + v → (runB p S r n b).long ≤ p + v := by
  induction n with
  | zero => intro r b c d h hl; exact hl
  | succ n ih =>
    intro r b c d h hl
    obtain ⟨c1, d1, h1⟩ := kept_step h hT
    exact ih h1 (kept_long h hT ha1 had haz hl)
/-- What was found is 0 where the true one is. -/
theorem bm_zero {p v : Nat} {G : List UInt8} {T : Nat → UInt8} {b : Bm} {c d a : List UInt8} (h : KeptB p G T 64 b c d) (had : ∀ j, v < j → cf a j = 0) (haz : ∀ j, p + v ≤ j → mulL a T j = 0)
    (hl : b.long ≤ p + v) (hv : p + 2 * v ≤ 64) {x : UInt8} (hx : ev a x = 0) (hne : evn (p + v) (mulL a T) x ≠ 0) : ev c x = 0 := by
  have hlow := h.low
  obtain ⟨N, hN⟩ : ∃ N : Nat → UInt8, N = fun j => if j < b.long then mulL c T j else 0 := ⟨_, rfl⟩
  have hNz : ∀ j, b.long ≤ j → N j = 0 := fun j hj => by rw [hN]; show (if j < b.long then _ else _) = _; rw [if_neg (by omega)]
  have hN64 : ∀ j, j < 64 → mulL c T j = N j := fun j hj => by
    rw [hN]
    show _ = (if j < b.long then mulL c T j else 0)
    split
    · rfl
    · exact h.zf j (by omega) hj
  have e : mulL c (mulL a T) = mulL a N := by
    funext j
    by_cases hj : j < 64
    · rw [mulL_swap]; exact mulL_local fun i hi => hN64 i (by omega)
    · rw [mulL_conv, mulL_conv, sx_zero (fun i hi => ?_), sx_zero (fun i hi => ?_)]
      · by_cases h1 : v < i
        · rw [had i h1, zero_gm]
        · rw [hNz (j - i) (by omega), gm_zero]
      · by_cases h1 : b.long < i + p
        · rw [h.dc i h1, zero_gm]
        · rw [haz (j - i) (by omega), gm_zero]
  have e1 := evn_mul c (mulL a T) (p + v) (c.length + (p + v) + (a.length + b.long)) x haz (by omega)
  have e2 := evn_mul a N b.long (c.length + (p + v) + (a.length + b.long)) x hNz (by omega)
  rw [e, e2, hx, zero_gm] at e1
  rcases gm_eq_zero.1 e1.symm with h3 | h3
  · exact h3
  · exact absurd h3 hne

/-- A polynomial without one of its roots. -/
def quo (r : UInt8) : List UInt8 → List UInt8
  | [] => []
  | _ :: l => ev l r :: quo r l
theorem quo_cf (r : UInt8) (f : List UInt8) (j : Nat) : cf f j = (if j = 0 then ev f r else 0) ^^^ (gm r (cf (quo r f) j) ^^^ sh (cf (quo r f)) j) := by
  induction f generalizing j with
  | nil => cases j <;> simp [quo, cf_nil, ev, pz, sh, gm_zero]
  | cons c l ih =>
    cases j with
    | zero =>
      rw [cf_zero, if_pos rfl]
      show c = (c ^^^ gm r (ev l r)) ^^^ (gm r (cf (ev l r :: quo r l) 0) ^^^ 0)
      rw [cf_zero, xzero, xassoc, xself, xzero]
    | succ j =>
      rw [cf_succ, if_neg (by omega), zerox]
      show cf l j = gm r (cf (ev l r :: quo r l) (j + 1)) ^^^ cf (ev l r :: quo r l) j
      rw [cf_succ, ih j]
      cases j with
      | zero =>
        rw [if_pos rfl, cf_zero]
        show ev l r ^^^ (gm r (cf (quo r l) 0) ^^^ 0) = _
        rw [xzero, xcomm]
      | succ j =>
        rw [if_neg (by omega), zerox, cf_succ]; rfl
theorem quo_ev (r x : UInt8) (f : List UInt8) : ev f x = ev f r ^^^ gm (r ^^^ x) (ev (quo r f) x) := by
  induction f with
  | nil => show (0 : UInt8) = 0 ^^^ gm (r ^^^ x) 0; rw [gm_zero]; exact (xself 0).symm
  | cons c l ih =>
    show c ^^^ gm x (ev l x) = (c ^^^ gm r (ev l r)) ^^^ gm (r ^^^ x) (ev l r ^^^ gm x (ev (quo r l) x))
    rw [gm_xor, xor_gm r x (ev l r), gm_left_comm, ih, gm_xor]
    obtain ⟨A, hA⟩ : ∃ A, A = gm r (ev l r) := ⟨_, rfl⟩
    obtain ⟨B, hB⟩ : ∃ B, B = gm x (ev l r) := ⟨_, rfl⟩
    obtain ⟨C, hC⟩ : ∃ C, C = gm x (gm (r ^^^ x) (ev (quo r l) x)) := ⟨_, rfl⟩
    rw [← hA, ← hB, ← hC, xassoc c A, xassoc A B C, xcancel]
theorem quo_deg (r : UInt8) (f : List UInt8) (n : Nat) (h : ∀ j, n + 1 ≤ j → cf f j = 0) : ∀ j, n ≤ j → cf (quo r f) j = 0 := by
  induction f generalizing n with
  | nil => intro j _; exact cf_ge (Nat.zero_le _)
  | cons c l ih =>
    intro j hj
    have hl : ∀ i, n ≤ i → cf l i = 0 := fun i hi => by have := h (i + 1) (by omega); rwa [cf_succ] at this
    cases j with
    | zero =>
      obtain rfl : n = 0 := by omega
      show ev l r = 0
      exact ev_pz r (funext fun i => hl i (Nat.zero_le _))
    | succ j =>
      show cf (quo r l) j = 0
      cases n with
      | zero => exact ih 0 (fun i hi => hl i (by omega)) j (by omega)
      | succ n => exact ih n (fun i hi => hl i hi) j (by omega)
/-- As many roots as coefficients: nought. -/
theorem few_roots (R : List UInt8) : ∀ (f : List UInt8), R.Nodup → (∀ j, R.length ≤ j → cf f j = 0) → (∀ x ∈ R, ev f x = 0) → cf f = pz := by
  induction R with
  | nil => intro f _ h _; exact funext fun j => h j (Nat.zero_le _)
  | cons r R ih =>
    intro f hn h hx
    obtain ⟨hr, hn⟩ := List.nodup_cons.1 hn
    have h0 := hx r List.mem_cons_self
    have hq := ih (quo r f) hn (quo_deg r f R.length (fun j hj => h j (by rw [List.length_cons]; exact hj))) (fun x hm => by
      have h1 := hx x (List.mem_cons_of_mem _ hm)
      rw [quo_ev r x f, h0, zerox] at h1
      rcases gm_eq_zero.1 h1 with h2 | h2
      · have : r = x := xeq_zero.1 h2
        subst this; exact absurd hm hr
      · exact h2)
    funext j
    rw [quo_cf r f j, h0, hq, ite_self, zerox]
    cases j with
    | zero => show gm r 0 ^^^ 0 = 0; rw [gm_zero, xzero]
    | succ j => show gm r 0 ^^^ 0 = 0; rw [gm_zero, xzero]
end Go.Proofs.YtahjpjhkbohpnaaDoor
