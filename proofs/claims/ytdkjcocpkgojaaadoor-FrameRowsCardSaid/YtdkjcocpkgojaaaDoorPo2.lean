/- Polynomials over bytes: values at places, slopes, roots. Plain; no program in sight. -/
import Derived.Test.YtdkjcocpkgojaaaDoorPo1
namespace Go.Proofs.YtdkjcocpkgojaaaDoor
set_option linter.unusedSimpArgs false
set_option linter.unusedVariables false

/-- The value at a place. -/
def ev : List UInt8 → UInt8 → UInt8
  | [], _ => 0
  | c :: l, x => c ^^^ gm x (ev l x)
/-- Of so many coefficients of a function. -/
def evn : Nat → (Nat → UInt8) → UInt8 → UInt8
  | 0, _, _ => 0
  | n + 1, f, x => f 0 ^^^ gm x (evn n (fun i => f (i + 1)) x)
theorem evn_zero (n : Nat) (f : Nat → UInt8) (x : UInt8) (h : ∀ i, i < n → f i = 0) : evn n f x = 0 := by
  induction n generalizing f with
  | zero => rfl
  | succ n ih => rw [evn, h 0 (by omega), ih _ (fun i hi => h (i + 1) (by omega)), gm_zero]; rfl
theorem evn_congr {n : Nat} {f g : Nat → UInt8} (x : UInt8) (h : ∀ i, i < n → f i = g i) : evn n f x = evn n g x := by
  induction n generalizing f g with
  | zero => rfl
  | succ n ih => rw [evn, evn, h 0 (by omega), ih (fun i hi => h (i + 1) (by omega))]
theorem evn_more {n m : Nat} {f : Nat → UInt8} (x : UInt8) (h : n ≤ m) (hz : ∀ i, n ≤ i → f i = 0) : evn m f x = evn n f x := by
  induction n generalizing m f with
  | zero => exact evn_zero _ _ _ (fun i _ => hz i (by omega))
  | succ n ih =>
    obtain ⟨m, rfl⟩ : ∃ k, m = k + 1 := ⟨m - 1, by omega⟩
    rw [evn, evn, ih (by omega) (fun i hi => hz (i + 1) (by omega))]
theorem evn_pad (n : Nat) (f g : Nat → UInt8) (x : UInt8) : evn n (pad f g) x = evn n f x ^^^ evn n g x := by
  induction n generalizing f g with
  | zero => exact (xself 0).symm
  | succ n ih =>
    rw [evn, evn, evn]
    have := ih (fun i => f (i + 1)) (fun i => g (i + 1))
    rw [show (fun i => pad f g (i + 1)) = pad (fun i => f (i + 1)) (fun i => g (i + 1)) from rfl, this, gm_xor]
    show f 0 ^^^ g 0 ^^^ _ = _
    rw [xassoc, xassoc, xleft (g 0)]
theorem evn_scl (n : Nat) (c : UInt8) (f : Nat → UInt8) (x : UInt8) : evn n (scl c f) x = gm c (evn n f x) := by
  induction n generalizing f with
  | zero => exact (gm_zero _).symm
  | succ n ih =>
    rw [evn, evn, show (fun i => scl c f (i + 1)) = scl c (fun i => f (i + 1)) from rfl, ih, gm_xor, gm_left_comm]; rfl
theorem evn_sh (n : Nat) (f : Nat → UInt8) (x : UInt8) : evn (n + 1) (sh f) x = gm x (evn n f x) := by
  rw [evn]; show (0 : UInt8) ^^^ _ = _; rw [zerox]; rfl
theorem ev_evn (l : List UInt8) (x : UInt8) : ev l x = evn l.length (cf l) x := by
  induction l with
  | nil => rfl
  | cons c l ih => rw [ev, List.length_cons, evn, cf_zero, ih]; rfl
theorem ev_more {l : List UInt8} {n : Nat} (x : UInt8) (h : l.length ≤ n) : ev l x = evn n (cf l) x := by
  rw [ev_evn, evn_more x h fun i hi => cf_ge hi]
theorem ev_cf {a b : List UInt8} (x : UInt8) (h : cf a = cf b) : ev a x = ev b x := by
  rw [ev_more (n := a.length + b.length) x (by omega), ev_more (l := b) (n := a.length + b.length) x (by omega), h]
theorem ev_trim (l : List UInt8) (x : UInt8) : ev (trimL l) x = ev l x := ev_cf x (cf_trim l)
theorem evn_mul (a : List UInt8) (g : Nat → UInt8) (m n : Nat) (x : UInt8) (hg : ∀ j, m ≤ j → g j = 0) (h : a.length + m ≤ n) : evn n (mulL a g) x = gm (ev a x) (evn m g x) := by
  induction a generalizing n with
  | nil => rw [show mulL [] g = pz from rfl, evn_zero n pz x (fun _ _ => rfl)]; exact (zero_gm _).symm
  | cons c a ih =>
    obtain ⟨n, rfl⟩ : ∃ k, n = k + 1 := ⟨n - 1, by simp at h; omega⟩
    rw [mulL, evn_pad, evn_scl, evn_sh, ih n (by simp at h; omega), evn_more x (m := n + 1) (n := m) (by simp at h; omega) hg, ev, xor_gm, gm_assoc]
theorem ev_mul {a b c : List UInt8} (x : UInt8) (h : cf c = mulL a (cf b)) : ev c x = gm (ev a x) (ev b x) := by
  have h1 : cf c = cf (prodL a b) := by rw [h, cf_prodL]
  rw [ev_cf x h1, ev_evn, cf_prodL, prodL_length, evn_mul a (cf b) b.length _ x (fun j hj => cf_ge hj) (by omega), ev_evn b]
theorem ev_add {a b c : List UInt8} (x : UInt8) (h : cf c = pad (cf a) (cf b)) : ev c x = ev a x ^^^ ev b x := by
  have hn : c.length ≤ a.length + b.length + c.length := by omega
  rw [ev_more x hn, h, evn_pad, ← ev_more x (by omega), ← ev_more x (by omega)]
theorem ev_single (c x : UInt8) : ev [c] x = c := by simp [ev, gm_zero]
theorem ev_pair (c x : UInt8) : ev [c, 1] x = c ^^^ x := by simp [ev, gm_zero, gm_one]
theorem ev_pz {a : List UInt8} (x : UInt8) (h : cf a = pz) : ev a x = 0 := by rw [ev_cf (b := []) x (by rw [h, cf_nil])]; rfl

/-! ## Slopes -/
def der (f : Nat → UInt8) : Nat → UInt8 := fun n => if n % 2 = 0 then f (n + 1) else 0
theorem der_pad (f g : Nat → UInt8) : der (pad f g) = pad (der f) (der g) := by
  funext n; simp only [der, pad]; split <;> simp
theorem der_scl (c : UInt8) (f : Nat → UInt8) : der (scl c f) = scl c (der f) := by
  funext n; simp only [der, scl]; split <;> simp [gm_zero]
theorem der_sh (f : Nat → UInt8) : der (sh f) = pad f (sh (der f)) := by
  funext n
  cases n with
  | zero => simp [der, pad, sh]
  | succ n =>
    simp only [der, pad, sh]
    by_cases h : n % 2 = 0
    · rw [if_neg (by omega), if_pos h, xself]
    · rw [if_pos (by omega), if_neg h, xzero]
theorem der_pz : der pz = pz := by funext n; simp [der, pz]
theorem der_der (f : Nat → UInt8) : der (der f) = pz := by
  funext n; simp only [der, pz]; split
  · rw [if_neg (by omega)]
  · rfl
/-- The slope, in one coefficient less. -/
def slopeL (l : List UInt8) : List UInt8 := ofF (l.length - 1) (der (cf l))
theorem cf_slope (l : List UInt8) : cf (slopeL l) = der (cf l) := by
  refine cf_ofF_eq fun j hj => ?_
  simp only [der]; split
  · exact cf_ge (by omega)
  · rfl
theorem slopeL_length (l : List UInt8) : (slopeL l).length = l.length - 1 := ofF_length _ _
theorem der_mul (a : List UInt8) (g : Nat → UInt8) : der (mulL a g) = pad (mulL (slopeL a) g) (mulL a (der g)) := by
  induction a with
  | nil => rw [show mulL [] g = pz from rfl, show mulL [] (der g) = pz from rfl, der_pz, show slopeL [] = [] from rfl, show mulL [] g = pz from rfl, pad_pz]
  | cons c a ih =>
    have hs : ∀ g, mulL (slopeL (c :: a)) g = pad (mulL a g) (sh (mulL (slopeL a) g)) := fun g => by
      have h1 : cf (slopeL (c :: a)) = cf (addL a (0 :: slopeL a)) := by
        rw [cf_slope, cf_addL, cf_cons, der_pad, der_sh, cf_cons 0 (slopeL a), cf_slope]
        have h2 : der (fun n => if n = 0 then c else 0) = pz := by funext n; simp [der, pz]
        have h3 : (fun n : Nat => if n = 0 then (0 : UInt8) else 0) = pz := by funext n; simp [pz]
        rw [h2, h3, pz_pad, pz_pad]
      rw [mulL_cf h1]
      funext n
      simp only [mulL_conv, pad]
      have h4 : ∀ i, gm (cf (addL a (0 :: slopeL a)) i) (g (n - i)) = gm (cf a i) (g (n - i)) ^^^ gm (cf (0 :: slopeL a) i) (g (n - i)) := fun i => by rw [cf_addL]; exact xor_gm _ _ _
      simp only [h4, sx_xor]
      rw [← mulL_conv a, ← mulL_conv (0 :: slopeL a)]
      show _ ^^^ (gm 0 (g n) ^^^ sh (mulL (slopeL a) g) n) = _
      rw [zero_gm, zerox]
    rw [mulL, der_pad, der_scl, der_sh, ih, hs, mulL]
    simp only [sh_pad]
    rw [pad_assoc (mulL a g), pad_left (scl c (der g)), pad_left (scl c (der g)), pad_left (mulL a g) (sh (mulL (slopeL a) g))]

/-! ## Roots -/
/-- The product with X + r for each r. -/
def rt (p : List UInt8) : List UInt8 → List UInt8
  | [] => p
  | r :: l => rt (trimL (prodL p [r, 1])) l
def prx (l : List UInt8) (x : UInt8) : UInt8 := match l with | [] => 1 | r :: l => gm (r ^^^ x) (prx l x)
theorem cf_step (p : List UInt8) (r : UInt8) : cf (trimL (prodL p [r, 1])) = mulL p (cf [r, 1]) := by rw [cf_trim, cf_prodL]
theorem ev_rt (p l : List UInt8) (x : UInt8) : ev (rt p l) x = gm (ev p x) (prx l x) := by
  induction l generalizing p with
  | nil => exact (gm_one _).symm
  | cons r l ih => rw [rt, ih, ev_mul x (cf_step p r), ev_pair, prx, gm_assoc]
theorem prx_zero (l : List UInt8) (x : UInt8) : prx l x = 0 ↔ x ∈ l := by
  induction l with
  | nil => simp [prx]
  | cons r l ih =>
    rw [prx, gm_eq_zero, ih, xeq_zero, List.mem_cons]
    constructor
    · rintro (h | h)
      · exact .inl h.symm
      · exact .inr h
    · rintro (h | h)
      · exact .inl h.symm
      · exact .inr h
theorem dl_pair (r : UInt8) : dl [r, 1] = 2 := dl_eq (n := 1) (by show (1 : UInt8) ≠ 0; decide) fun m hm => cf_ge (by simp; omega)
theorem dl_rt (p l : List UInt8) (h : dl p ≠ 0) : dl (rt p l) = dl p + l.length := by
  induction l generalizing p with
  | nil => rfl
  | cons r l ih =>
    have h1 := dl_mul (cf_step p r) h (by rw [dl_pair]; decide)
    rw [dl_pair] at h1
    rw [rt, ih _ (by omega), h1, List.length_cons]; omega
theorem top_rt (p l : List UInt8) (h : dl p ≠ 0) : cf (rt p l) (dl p - 1 + l.length) = cf p (dl p - 1) := by
  induction l generalizing p with
  | nil => rfl
  | cons r l ih =>
    have h0 := cf_step p r
    have h1 := dl_mul h0 h (by rw [dl_pair]; decide)
    have h2 := top_mul (a := p) (b := [r, 1]) h (by rw [dl_pair]; decide)
    rw [dl_pair] at h1 h2
    have h3 := ih (trimL (prodL p [r, 1])) (by omega)
    rw [h1, h0] at h3
    rw [rt, List.length_cons]
    rw [show dl p - 1 + (l.length + 1) = dl p + 2 - 1 - 1 + l.length by omega, h3, show dl p + 2 - 1 - 1 = dl p - 1 + (2 - 1) by omega, h2]
    exact gm_one _
theorem rt_snoc (p l : List UInt8) (r : UInt8) : rt p (l ++ [r]) = trimL (prodL (rt p l) [r, 1]) := by
  induction l generalizing p with
  | nil => rfl
  | cons s l ih => rw [List.cons_append, rt, rt, ih]
theorem rt_trim (p l : List UInt8) (h : trimL p = p) : trimL (rt p l) = rt p l := by
  induction l generalizing p with
  | nil => exact h
  | cons r l ih => rw [rt]; exact ih _ (trim_trim _)
theorem rt_length (p l : List UInt8) (h : trimL p = p) (h0 : dl p ≠ 0) : (rt p l).length = p.length + l.length := by
  have h1 := dl_rt p l h0
  unfold dl at h1
  rwa [rt_trim p l h, h] at h1
end Go.Proofs.YtdkjcocpkgojaaaDoor
