/- Polynomials over bytes: values at places, slopes, roots. Plain; no program in sight. Words of the code: values at the first powers of 2, the generator, the parity, and how far words are apart. Plain; no program in sight. -/
import Derived.Test.YtpkpfebhdgbgbaaGreatDoorPo1
namespace Go.Proofs.YtpkpfebhdgbgbaaGreatDoor
set_option linter.unusedSimpArgs false
set_option linter.unusedVariables false

/-- The value at a place. -/
def ev : List UInt8 → UInt8 → UInt8
  | [], _ => 0
  | c :: l, x => c ^^^ gm x (ev l x)
/-- Of so many coefficients of a function. -/
def evn : Nat → (Nat → UInt8) → UInt8 → UInt8
  | 0, _, _ => 0
  | n + 1, f, x => f 0 ^^^ gm x (evn n (fun i => f (i + 1)) x)
theorem evn_zero (n : Nat) (f : Nat → UInt8) (x : UInt8) (h : ∀ i, i < n → f i = 0) : evn n f x = 0 := by
  induction n generalizing f with
  | zero => rfl
  | succ n ih => rw [evn, h 0 (by omega), ih _ (fun i hi => h (i + 1) (by omega)), gm_zero]; rfl
theorem evn_congr {n : Nat} {f g : Nat → UInt8} (x : UInt8) (h : ∀ i, i < n → f i = g i) : evn n f x = evn n g x := by
  induction n generalizing f g with
  | zero => rfl
  | succ n ih => rw [evn, evn, h 0 (by omega), ih (fun i hi => h (i + 1) (by omega))]
theorem evn_more {n m : Nat} {f : Nat → UInt8} (x : UInt8) (h : n ≤ m) (hz : ∀ i, n ≤ i → f i = 0) : evn m f x = evn n f x := by
  induction n generalizing m f with
  | zero => exact evn_zero _ _ _ (fun i _ => hz i (by omega))
  | succ n ih =>
    obtain ⟨m, rfl⟩ : ∃ k, m = k + 1 := ⟨m - 1, by omega⟩
    rw [evn, evn, ih (by omega) (fun i hi => hz (i + 1) (by omega))]
theorem evn_pad (n : Nat) (f g : Nat → UInt8) (x : UInt8) : evn n (pad f g) x = evn n f x ^^^ evn n g x := by
  induction n generalizing f g with
  | zero => exact (xself 0).symm
  | succ n ih =>
    rw [evn, evn, evn]
    have := ih (fun i => f (i + 1)) (fun i => g (i + 1))
    rw [show (fun i => pad f g (i + 1)) = pad (fun i => f (i + 1)) (fun i => g (i + 1)) from rfl, this, gm_xor]
    show f 0 ^^^ g 0 ^^^ _ = _
    rw [xassoc, xassoc, xleft (g 0)]
theorem evn_scl (n : Nat) (c : UInt8) (f : Nat → UInt8) (x : UInt8) : evn n (scl c f) x = gm c (evn n f x) := by
  induction n generalizing f with
  | zero => exact (gm_zero _).symm
  | succ n ih =>
    rw [evn, evn, show (fun i => scl c f (i + 1)) = scl c (fun i => f (i + 1)) from rfl, ih, gm_xor, gm_left_comm]; rfl
theorem evn_sh (n : Nat) (f : Nat → UInt8) (x : UInt8) : evn (n + 1) (sh f) x = gm x (evn n f x) := by
  rw [evn]; show (0 : UInt8) ^^^ _ = _; rw [zerox]; rfl
theorem ev_evn (l : List UInt8) (x : UInt8) : ev l x = evn l.length (cf l) x := by
  induction l with
  | nil => rfl
  | cons c l ih => rw [ev, List.length_cons, evn, cf_zero, ih]; rfl
theorem ev_more {l : List UInt8} {n : Nat} (x : UInt8) (h : l.length ≤ n) : ev l x = evn n (cf l) x := by
  rw [ev_evn, evn_more x h fun i hi => cf_ge hi]
theorem ev_cf {a b : List UInt8} (x : UInt8) (h : cf a = cf b) : ev a x = ev b x := by
  rw [ev_more (n := a.length + b.length) x (by omega), ev_more (l := b) (n := a.length + b.length) x (by omega), h]
theorem ev_trim (l : List UInt8) (x : UInt8) : ev (trimL l) x = ev l x := ev_cf x (cf_trim l)
theorem evn_mul (a : List UInt8) (g : Nat → UInt8) (m n : Nat) (x : UInt8) (hg : ∀ j, m ≤ j → g j = 0) (h : a.length + m ≤ n) : evn n (mulL a g) x = gm (ev a x) (evn m g x) := by
  induction a generalizing n with
  | nil => rw [show mulL [] g = pz from rfl, evn_zero n pz x (fun _ _ => rfl)]; exact (zero_gm _).symm
  | cons c a ih =>
    obtain ⟨n, rfl⟩ : ∃ k, n = k + 1 := ⟨n - 1, by simp at h; omega⟩
    rw [mulL, evn_pad, evn_scl, evn_sh, ih n (by simp at h; omega), evn_more x (m := n + 1) (n := m) (by simp at h; omega) hg, ev, xor_gm, gm_assoc]
theorem ev_mul {a b c : List UInt8} (x : UInt8) (h : cf c = mulL a (cf b)) : ev c x = gm (ev a x) (ev b x) := by
  have h1 : cf c = cf (prodL a b) := by rw [h, cf_prodL]
  rw [ev_cf x h1, ev_evn, cf_prodL, prodL_length, evn_mul a (cf b) b.length _ x (fun j hj => cf_ge hj) (by omega), ev_evn b]
theorem ev_add {a b c : List UInt8} (x : UInt8) (h : cf c = pad (cf a) (cf b)) : ev c x = ev a x ^^^ ev b x := by
  have hn : c.length ≤ a.length + b.length + c.length := by omega
  rw [ev_more x hn, h, evn_pad, ← ev_more x (by omega), ← ev_more x (by omega)]
theorem ev_single (c x : UInt8) : ev [c] x = c := by simp [ev, gm_zero]
theorem ev_pair (c x : UInt8) : ev [c, 1] x = c ^^^ x := by simp [ev, gm_zero, gm_one]
theorem ev_pz {a : List UInt8} (x : UInt8) (h : cf a = pz) : ev a x = 0 := by rw [ev_cf (b := []) x (by rw [h, cf_nil])]; rfl

/-! ## Slopes -/
def der (f : Nat → UInt8) : Nat → UInt8 := fun n => if n % 2 = 0 then f (n + 1) else 0
theorem der_pad (f g : Nat → UInt8) : der (pad f g) = pad (der f) (der g) := by
  funext n; simp only [der, pad]; split <;> simp
theorem der_scl (c : UInt8) (f : Nat → UInt8) : der (scl c f) = scl c (der f) := by
  funext n; simp only [der, scl]; split <;> simp [gm_zero]
theorem der_sh (f : Nat → UInt8) : der (sh f) = pad f (sh (der f)) := by
  funext n
  cases n with
  | zero => simp [der, pad, sh]
  | succ n =>
    simp only [der, pad, sh]
    by_cases h : n % 2 = 0
    · rw [if_neg (by omega), if_pos h, xself]
    · rw [if_pos (by omega), if_neg h, xzero]
theorem der_pz : der pz = pz := by funext n; simp [der, pz]
theorem der_der (f : Nat → UInt8) : der (der f) = pz := by
  funext n; simp only [der, pz]; split
  · rw [if_neg (by omega)]
  · rfl
/-- The slope, in one coefficient less. -/
def slopeL (l : List UInt8) : List UInt8 := ofF (l.length - 1) (der (cf l))
theorem cf_slope (l : List UInt8) : cf (slopeL l) = der (cf l) := by
  refine cf_ofF_eq fun j hj => ?_
  simp only [der]; split
  · exact cf_ge (by omega)
  · rfl
theorem slopeL_length (l : List UInt8) : (slopeL l).length = l.length - 1 := ofF_length _ _
theorem der_mul (a : List UInt8) (g : Nat → UInt8) : der (mulL a g) = pad (mulL (slopeL a) g) (mulL a (der g)) := by
  induction a with
  | nil => rw [show mulL [] g = pz from rfl, show mulL [] (der g) = pz from rfl, der_pz, show slopeL [] = [] from rfl, show mulL [] g = pz from rfl, pad_pz]
  | cons c a ih =>
    have hs : ∀ g, mulL (slopeL (c :: a)) g = pad (mulL a g) (sh (mulL (slopeL a) g)) := fun g => by
      have h1 : cf (slopeL (c :: a)) = cf (addL a (0 :: slopeL a)) := by
        rw [cf_slope, cf_addL, cf_cons, der_pad, der_sh, cf_cons 0 (slopeL a), cf_slope]
        have h2 : der (fun n => if n = 0 then c else 0) = pz := by funext n; simp [der, pz]
        have h3 : (fun n : Nat => if n = 0 then (0 : UInt8) else 0) = pz := by funext n; simp [pz]
        rw [h2, h3, pz_pad, pz_pad]
      rw [mulL_cf h1]
      funext n
      simp only [mulL_conv, pad]
      have h4 : ∀ i, gm (cf (addL a (0 :: slopeL a)) i) (g (n - i)) = gm (cf a i) (g (n - i)) ^^^ gm (cf (0 :: slopeL a) i) (g (n - i)) := fun i => by rw [cf_addL]; exact xor_gm _ _ _
      simp only [h4, sx_xor]
      rw [← mulL_conv a, ← mulL_conv (0 :: slopeL a)]
      show _ ^^^ (gm 0 (g n) ^^^ sh (mulL (slopeL a) g) n) = _
      rw [zero_gm, zerox]
    rw [mulL, der_pad, der_scl, der_sh, ih, hs, mulL]
    simp only [sh_pad]
    rw [pad_assoc (mulL a g), pad_left (scl c (der g)), pad_left (scl c (der g)), pad_left (mulL a g) (sh (mulL (slopeL a) g))]

/-! ## Roots -/
/-- The product with X + r for each r. -/
def rt (p : List UInt8) : List UInt8 → List UInt8
  | [] => p
  | r :: l => rt (trimL (prodL p [r, 1])) l
def prx (l : List UInt8) (x : UInt8) : UInt8 := match l with | [] => 1 | r :: l => gm (r ^^^ x) (prx l x)
theorem cf_step (p : List UInt8) (r : UInt8) : cf (trimL (prodL p [r, 1])) = mulL p (cf [r, 1]) := by rw [cf_trim, cf_prodL]
theorem ev_rt (p l : List UInt8) (x : UInt8) : ev (rt p l) x = gm (ev p x) (prx l x) := by
  induction l generalizing p with
  | nil => exact (gm_one _).symm
  | cons r l ih => rw [rt, ih, ev_mul x (cf_step p r), ev_pair, prx, gm_assoc]
theorem prx_zero (l : List UInt8) (x : UInt8) : prx l x = 0 ↔ x ∈ l := by
  induction l with
  | nil => simp [prx]
  | cons r l ih =>
    rw [prx, gm_eq_zero, ih, xeq_zero, List.mem_cons]
    constructor
    · rintro (h | h)
      · exact .inl h.symm
      · exact .inr h
    · rintro (h | h)
      · exact .inl h.symm
      · exact .inr h
theorem dl_pair (r : UInt8) : dl [r, 1] = 2 := dl_eq (n := 1) (by show (1 : UInt8) ≠ 0; decide) fun m hm => cf_ge (by simp; omega)
theorem dl_rt (p l : List UInt8) (h : dl p ≠ 0) : dl (rt p l) = dl p + l.length := by
  induction l generalizing p with
  | nil => rfl
  | cons r l ih =>
    have h1 := dl_mul (cf_step p r) h (by rw [dl_pair]; decide)
    rw [dl_pair] at h1
    rw [rt, ih _ (by omega), h1, List.length_cons]; omega
theorem top_rt (p l : List UInt8) (h : dl p ≠ 0) : cf (rt p l) (dl p - 1 + l.length) = cf p (dl p - 1) := by
  induction l generalizing p with
  | nil => rfl
  | cons r l ih =>
    have h0 := cf_step p r
    have h1 := dl_mul h0 h (by rw [dl_pair]; decide)
    have h2 := top_mul (a := p) (b := [r, 1]) h (by rw [dl_pair]; decide)
    rw [dl_pair] at h1 h2
    have h3 := ih (trimL (prodL p [r, 1])) (by omega)
    rw [h1, h0] at h3
    rw [rt, List.length_cons]
    rw [show dl p - 1 + (l.length + 1) = dl p + 2 - 1 - 1 + l.length by omega, h3, show dl p + 2 - 1 - 1 = dl p - 1 + (2 - 1) by omega, h2]
    exact gm_one _
theorem rt_snoc (p l : List UInt8) (r : UInt8) : rt p (l ++ [r]) = trimL (prodL (rt p l) [r, 1]) := by
  induction l generalizing p with
  | nil => rfl
  | cons s l ih => rw [List.cons_append, rt, rt, ih]
theorem rt_trim (p l : List UInt8) (h : trimL p = p) : trimL (rt p l) = rt p l := by
  induction l generalizing p with
  | nil => exact h
  | cons r l ih => rw [rt]; exact ih _ (trim_trim _)
theorem rt_length (p l : List UInt8) (h : trimL p = p) (h0 : dl p ≠ 0) : (rt p l).length = p.length + l.length := by
  have h1 := dl_rt p l h0
  unfold dl at h1
  rwa [rt_trim p l h, h] at h1
end Go.Proofs.YtpkpfebhdgbgbaaGreatDoor
namespace Go.Proofs.YtpkpfebhdgbgbaaGreatDoor
set_option linter.unusedSimpArgs false
set_option linter.unusedVariables false

/-! ## Powers -/
def xpw (x : UInt8) : Nat → UInt8 | 0 => 1 | n + 1 => gm (xpw x n) x
theorem xpw_ex (n m : Nat) : xpw (ex n) m = ex (n * m) := by
  induction m with
  | zero => rfl
  | succ m ih => rw [xpw, ih, Nat.mul_succ, ex_add]
theorem evn_sum (n : Nat) (f : Nat → UInt8) (x : UInt8) : evn n f x = sx n (fun i => gm (f i) (xpw x i)) := by
  induction n generalizing f with
  | zero => rfl
  | succ n ih =>
    rw [evn, sx_left, ih, ← sx_gm]
    congr 1
    · exact (gm_one _).symm
    · refine sx_congr fun i _ => ?_
      show gm x (gm (f (i + 1)) (xpw x i)) = gm (f (i + 1)) (gm (xpw x i) x)
      rw [gm_left_comm, gm_comm x]
theorem evn_succ (n : Nat) (f : Nat → UInt8) (x : UInt8) : evn (n + 1) f x = evn n f x ^^^ gm (f n) (xpw x n) := by rw [evn_sum, evn_sum]; rfl
/-- One term of a sum. -/
theorem sx_single {n j : Nat} {f : Nat → UInt8} (hj : j < n) (h : ∀ i, i < n → i ≠ j → f i = 0) : sx n f = f j := by
  induction n with
  | zero => omega
  | succ n ih =>
    rw [sx]
    by_cases e : j = n
    · subst e
      rw [sx_zero (fun i hi => h i (by omega) (by omega)), zerox]
    · rw [ih (by omega) (fun i hi hne => h i (by omega) hne), h n (by omega) (by omega), xzero]

theorem snoc_ind {p : List UInt8 → Prop} (h0 : p []) (hs : ∀ l c, p l → p (l ++ [c])) (l : List UInt8) : p l := by
  have key : ∀ m : List UInt8, p m.reverse := fun m => by
    induction m with
    | nil => exact h0
    | cons c m ih => rw [List.reverse_cons]; exact hs _ _ ih
  have := key l.reverse
  rwa [List.reverse_reverse] at this

/-! ## A text's value at a place: the first byte is the highest coefficient -/
def hv (l : List UInt8) (x : UInt8) : UInt8 := l.foldl (fun a c => gm a x ^^^ c) 0
theorem hv_snoc (l : List UInt8) (c x : UInt8) : hv (l ++ [c]) x = gm (hv l x) x ^^^ c := by unfold hv; rw [List.foldl_append]; rfl
theorem hv_append (l m : List UInt8) (x : UInt8) : hv (l ++ m) x = gm (hv l x) (xpw x m.length) ^^^ hv m x := by
  induction m using snoc_ind with
  | h0 => rw [List.append_nil]; show hv l x = gm (hv l x) 1 ^^^ 0; rw [gm_one, xzero]
  | hs m c ih =>
    rw [← List.append_assoc, hv_snoc, ih, hv_snoc, List.length_append, List.length_singleton, xpw, xor_gm, gm_assoc, xassoc]
theorem hv_sum (l : List UInt8) (x : UInt8) : hv l x = sx l.length (fun i => gm (cf l i) (xpw x (l.length - 1 - i))) := by
  induction l using snoc_ind with
  | h0 => rfl
  | hs l c ih =>
    rw [hv_snoc, ih, List.length_append, List.length_singleton, sx, gm_comm _ x, ← sx_gm]
    congr 1
    · refine sx_congr fun i hi => ?_
      have h1 : cf (l ++ [c]) i = cf l i := by rw [cf_append]; show cf l i ^^^ shn _ _ i = _; rw [shn_apply, if_pos hi, xzero]
      rw [h1, show l.length + 1 - 1 - i = (l.length - 1 - i) + 1 by omega, gm_left_comm, gm_comm x]
      rfl
    · have h1 : cf (l ++ [c]) l.length = c := by
        rw [cf_append]; show cf l l.length ^^^ shn _ _ _ = _
        rw [shn_apply, if_neg (Nat.lt_irrefl _), Nat.sub_self, cf_ge (Nat.le_refl _), zerox]; rfl
      rw [h1, show l.length + 1 - 1 - l.length = 0 by omega]
      exact (gm_one c).symm
theorem hv_zeros (n : Nat) (x : UInt8) : hv (List.replicate n 0) x = 0 := by
  induction n with
  | zero => rfl
  | succ n ih => rw [List.replicate_succ', hv_snoc, ih, zero_gm]; exact xself 0
/-- The values at the first 64 powers of 2. -/
def syn (l : List UInt8) : List UInt8 := ofF 64 (fun n => hv l (ex n))
theorem syn_length (l : List UInt8) : (syn l).length = 64 := ofF_length _ _
theorem cf_syn (l : List UInt8) (n : Nat) (h : n < 64) : cf (syn l) n = hv l (ex n) := by unfold syn; rw [cf_ofF, if_pos h]
/-- A word. -/
def IsW (l : List UInt8) : Prop := l.length = 255 ∧ ∀ n, n < 64 → hv l (ex n) = 0
theorem syn_zero {l : List UInt8} : cf (syn l) = pz ↔ ∀ n, n < 64 → hv l (ex n) = 0 := by
  constructor
  · intro h n hn
    rw [← cf_syn l n hn, h]; rfl
  · intro h
    funext n
    by_cases hn : n < 64
    · rw [cf_syn l n hn, h n hn]; rfl
    · exact cf_ge (by rw [syn_length]; omega)
theorem syn_zeros {l : List UInt8} : syn l = List.replicate 64 0 ↔ ∀ n, n < 64 → hv l (ex n) = 0 := by
  rw [← syn_zero]
  constructor
  · intro h
    rw [h]; funext j
    by_cases hj : j < 64
    · rw [cf_lt (by simpa using hj), List.getElem_replicate]; rfl
    · rw [cf_ge (by rw [List.length_replicate]; omega)]; rfl
  · intro h
    refine List.ext_getElem (by rw [syn_length]; simp) fun i h1 h2 => ?_
    have := congrFun h i
    rw [cf_lt h1] at this
    rw [this, List.getElem_replicate]; rfl

/-! ## The generator and the parity -/
def roots64 : List UInt8 := ofF 64 ex
def gen : List UInt8 := rt [1] roots64
theorem dl_one : dl [1] = 1 := dl_eq (n := 0) (by decide) (fun m hm => cf_ge (by simp; omega))
theorem gen_length : gen.length = 65 := by
  unfold gen; rw [rt_length [1] roots64 rfl (by rw [dl_one]; decide)]
  show 1 + (ofF 64 ex).length = 65
  rw [ofF_length]
theorem gen_top : cf gen 64 = 1 := by
  have h := top_rt [1] roots64 (by rw [dl_one]; decide)
  rw [dl_one] at h
  have hl : roots64.length = 64 := ofF_length _ _
  rw [hl] at h
  exact h
theorem ev_gen (n : Nat) (h : n < 64) : ev gen (ex n) = 0 := by
  unfold gen
  rw [ev_rt, ev_single, one_gm, prx_zero]
  unfold roots64 ofF
  exact List.mem_map.2 ⟨n, List.mem_range.2 h, rfl⟩
theorem gen_low (n : Nat) (h : n < 64) : evn 64 (cf gen) (ex n) = xpw (ex n) 64 := by
  have h1 := ev_gen n h
  rw [ev_more (n := 65) _ (by rw [gen_length]; exact Nat.le_refl _), evn_succ, gen_top, one_gm] at h1
  exact xeq_zero.1 h1
/-- The register behind one byte more. -/
def nxt (r : List UInt8) (d : UInt8) : List UInt8 := ofF 64 (fun k => cf r (k + 1) ^^^ gm (d ^^^ cf r 0) (cf gen (63 - k)))
theorem nxt_length (r : List UInt8) (d : UInt8) : (nxt r d).length = 64 := ofF_length _ _
def par (l : List UInt8) : List UInt8 := l.foldl nxt (List.replicate 64 0)
theorem par_snoc (l : List UInt8) (d : UInt8) : par (l ++ [d]) = nxt (par l) d := by unfold par; rw [List.foldl_append]; rfl
theorem par_length (l : List UInt8) : (par l).length = 64 := by
  induction l using snoc_ind with
  | h0 => simp [par]
  | hs l d _ => rw [par_snoc, nxt_length]
theorem hv_rev (r : List UInt8) (x : UInt8) : hv r x = evn r.length (fun j => cf r (r.length - 1 - j)) x := by
  rw [hv_sum, evn_sum]
  -- the sum the other way round
  have key : ∀ (n : Nat) (f : Nat → UInt8), sx n f = sx n (fun i => f (n - 1 - i)) := by
    intro n
    induction n with
    | zero => intro f; rfl
    | succ n ih =>
      intro f
      rw [sx_left, sx, ih (fun i => f (i + 1)), xcomm]
      congr 1
      · refine sx_congr fun i hi => ?_
        show f (n - 1 - i + 1) = f (n + 1 - 1 - i)
        congr 1
        omega
      · show f 0 = f (n + 1 - 1 - n)
        congr 1
        omega
  rw [key]
  refine sx_congr fun i hi => ?_
  show gm (cf r (r.length - 1 - i)) (xpw x (r.length - 1 - (r.length - 1 - i))) = _
  rw [show r.length - 1 - (r.length - 1 - i) = i by omega]
theorem hv_nxt (r : List UInt8) (d : UInt8) (hr : r.length = 64) (n : Nat) (h : n < 64) : hv (nxt r d) (ex n) = gm (hv r (ex n)) (ex n) ^^^ gm d (xpw (ex n) 64) := by
  obtain ⟨x, hx⟩ : ∃ x, x = ex n := ⟨_, rfl⟩
  have hg := gen_low n h
  rw [← hx] at hg ⊢
  have h1 : hv (nxt r d) x = evn 64 (pad (sh (fun j => cf r (63 - j))) (scl (d ^^^ cf r 0) (cf gen))) x := by
    rw [hv_rev, nxt_length]
    refine evn_congr x fun j hj => ?_
    show cf (nxt r d) (64 - 1 - j) = sh (fun j => cf r (63 - j)) j ^^^ gm (d ^^^ cf r 0) (cf gen j)
    unfold nxt
    rw [cf_ofF, if_pos (by omega), show 63 - (64 - 1 - j) = j by omega]
    congr 1
    cases j with
    | zero => exact cf_ge (by omega)
    | succ j => show cf r (64 - 1 - (j + 1) + 1) = cf r (63 - j); rw [show 64 - 1 - (j + 1) + 1 = 63 - j by omega]
  have h2 : evn 64 (sh (fun j => cf r (63 - j))) x = gm (hv r x) x ^^^ gm (cf r 0) (xpw x 64) := by
    have h3 := evn_succ 64 (sh (fun j => cf r (63 - j))) x
    rw [evn_sh] at h3
    have h4 : hv r x = evn 64 (fun j => cf r (63 - j)) x := by rw [hv_rev, hr]
    rw [← h4, gm_comm x] at h3
    have h5 : sh (fun j => cf r (63 - j)) 64 = cf r 0 := rfl
    rw [h5] at h3
    rw [h3, xassoc, xself, xzero]
  rw [h1, evn_pad, evn_scl, h2, hg, xor_gm, xassoc, xleft (gm (cf r 0) _), xself, xzero]
theorem par_zero (l : List UInt8) (n : Nat) (h : n < 64) : gm (hv l (ex n)) (xpw (ex n) 64) ^^^ hv (par l) (ex n) = 0 := by
  induction l using snoc_ind with
  | h0 =>
    show gm 0 _ ^^^ hv (List.replicate 64 0) _ = 0
    rw [zero_gm, hv_zeros]; exact xself 0
  | hs l d ih =>
    rw [par_snoc, hv_nxt _ _ (par_length l) n h, hv_snoc, xor_gm]
    have h1 : hv (par l) (ex n) = gm (hv l (ex n)) (xpw (ex n) 64) := (xeq_zero.1 ih).symm
    rw [h1]
    generalize gm (hv l (ex n)) (xpw (ex n) 64) = p at h1
    have h2 : gm (gm (hv l (ex n)) (ex n)) (xpw (ex n) 64) = gm (gm (hv l (ex n)) (xpw (ex n) 64)) (ex n) := by
      rw [gm_assoc, gm_comm (ex n), gm_assoc]
    rw [h2]
    rw [xeq_zero]
    congr 1
    congr 1
    exact (xeq_zero.1 ih).trans (by rw [h1])
/-- Data and their parity are a word. -/
theorem word_is (l : List UInt8) (hl : l.length = 191) : IsW (l ++ par l) := by
  refine ⟨by rw [List.length_append, hl, par_length], fun n hn => ?_⟩
  rw [hv_append, par_length]
  exact par_zero l n hn
/-! ## Sums and multiples of words -/
def xorL (a b : List UInt8) : List UInt8 := ofF 255 (fun i => cf a i ^^^ cf b i)
def mulB (a : List UInt8) (x : UInt8) : List UInt8 := ofF 255 (fun i => gm (cf a i) x)
theorem hv255 (l : List UInt8) (hl : l.length = 255) (x : UInt8) : hv l x = sx 255 (fun i => gm (cf l i) (xpw x (254 - i))) := by rw [hv_sum, hl]
theorem hv_xorL (a b : List UInt8) (ha : a.length = 255) (hb : b.length = 255) (x : UInt8) : hv (xorL a b) x = hv a x ^^^ hv b x := by
  rw [hv255 (xorL a b) (ofF_length _ _), hv255 a ha, hv255 b hb, ← sx_xor]
  refine sx_congr fun i hi => ?_
  unfold xorL
  rw [cf_ofF, if_pos hi, xor_gm]
theorem hv_mulB (a : List UInt8) (ha : a.length = 255) (y x : UInt8) : hv (mulB a y) x = gm y (hv a x) := by
  rw [hv255 (mulB a y) (ofF_length _ _), hv255 a ha, ← sx_gm]
  refine sx_congr fun i hi => ?_
  unfold mulB
  rw [cf_ofF, if_pos hi, gm_comm (cf a i), gm_assoc]
theorem word_xor {a b : List UInt8} (ha : IsW a) (hb : IsW b) : IsW (xorL a b) :=
  ⟨ofF_length _ _, fun n hn => by rw [hv_xorL a b ha.1 hb.1, ha.2 n hn, hb.2 n hn]; exact xself 0⟩
theorem word_mul {a : List UInt8} (ha : IsW a) (y : UInt8) : IsW (mulB a y) :=
  ⟨ofF_length _ _, fun n hn => by rw [hv_mulB a ha.1, ha.2 n hn, gm_zero]⟩

/-! ## How far words are apart -/
def place (i : Nat) : UInt8 := ex (254 - i)
theorem place_inj {i j : Nat} (hi : i < 255) (hj : j < 255) (h : place i = place j) : i = j := by
  have := ex_inj (m := 254 - i) (n := 254 - j) (by omega) (by omega) h
  omega
theorem syn_place (l : List UInt8) (hl : l.length = 255) (m : Nat) : hv l (ex m) = sx 255 (fun i => gm (cf l i) (xpw (place i) m)) := by
  rw [hv255 l hl]
  refine sx_congr fun i hi => ?_
  unfold place
  rw [xpw_ex, xpw_ex, Nat.mul_comm]
theorem locate (e : List UInt8) (he : e.length = 255) (L : List UInt8) (m : Nat) (h : ∀ k, m ≤ k → k < m + L.length → hv e (ex k) = 0) :
    sx 255 (fun i => gm (cf e i) (gm (xpw (place i) m) (ev L (place i)))) = 0 := by
  induction L generalizing m with
  | nil => exact sx_zero fun i _ => by show gm _ (gm _ 0) = 0; rw [gm_zero, gm_zero]
  | cons c L ih =>
    have h1 := ih (m + 1) (fun k hk1 hk2 => h k (by omega) (by simp; omega))
    have h2 := h m (Nat.le_refl _) (by simp)
    rw [syn_place e he] at h2
    have h3 : sx 255 (fun i => gm (cf e i) (gm (xpw (place i) m) (ev (c :: L) (place i)))) = sx 255 (fun i => gm c (gm (cf e i) (xpw (place i) m)) ^^^ gm (cf e i) (gm (xpw (place i) (m + 1)) (ev L (place i)))) := by
      refine sx_congr fun i _ => ?_
      rw [ev, gm_xor, gm_xor, xpw, gm_assoc (xpw (place i) m)]
      congr 1
      rw [gm_left_comm c, gm_comm c]
    rw [h3, sx_xor, sx_gm, h2, h1, gm_zero]; exact xself 0
/-- A text with bytes other than 0 at no more than 64 places, and whose values are all 0, is nought. -/
theorem apart {e : List UInt8} (he : IsW e) (S : List Nat) (hS : S.length ≤ 64) (hsub : ∀ i, i < 255 → cf e i ≠ 0 → i ∈ S) : ∀ i, cf e i = 0 := by
  intro j
  refine Decidable.byContradiction fun hne => ?_
  have hj : j < 255 := Decidable.byContradiction fun h => hne (cf_ge (by rw [he.1]; omega))
  have hjS := hsub j hj hne
  obtain ⟨T, hT⟩ : ∃ T, T = S.filter (fun i => decide (i ≠ j ∧ i < 255)) := ⟨_, rfl⟩
  have hTl : T.length + 1 ≤ S.length := by
    rw [hT]
    have := List.length_filter_lt_length_iff_exists (p := fun i => decide (i ≠ j ∧ i < 255)) (l := S) |>.2 ⟨j, hjS, by simp⟩
    omega
  obtain ⟨L, hL⟩ : ∃ L, L = rt [1] (T.map place) := ⟨_, rfl⟩
  have hLl : L.length = 1 + T.length := by
    rw [hL, rt_length [1] _ rfl (by rw [dl_one]; decide), List.length_map]; rfl
  have hev : ∀ x, ev L x = 0 ↔ x ∈ T.map place := fun x => by rw [hL, ev_rt, ev_single, one_gm, prx_zero]
  have h1 := locate e he.1 L 0 (fun k _ hk => he.2 k (by omega))
  rw [sx_single hj (fun i hi hij => ?_)] at h1
  · have h2 : xpw (place j) 0 = 1 := rfl
    rw [h2, one_gm] at h1
    rcases gm_eq_zero.1 h1 with h3 | h3
    · exact hne h3
    · obtain ⟨i, hi, hp⟩ := List.mem_map.1 ((hev _).1 h3)
      rw [hT] at hi
      have hi2 := of_decide_eq_true (List.mem_filter.1 hi).2
      exact hi2.1 (place_inj hi2.2 hj hp)
  · by_cases h0 : cf e i = 0
    · rw [h0, zero_gm]
    · have : ev L (place i) = 0 := (hev _).2 (List.mem_map.2 ⟨i, by rw [hT]; exact List.mem_filter.2 ⟨hsub i hi h0, decide_eq_true ⟨hij, hi⟩⟩, rfl⟩)
      rw [this, gm_zero, gm_zero]
end Go.Proofs.YtpkpfebhdgbgbaaGreatDoor
