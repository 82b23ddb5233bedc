/- Polynomials over bytes: coefficients, sums, products, trimming, degrees. Plain; no program in sight. -/
import Derived.Test.YtpkpfebhdgbgbaaGreatDoorGf1
namespace Go.Proofs.YtpkpfebhdgbgbaaGreatDoor
set_option linter.unusedSimpArgs false
set_option linter.unusedVariables false

/-- The coefficients of a list. -/
def cf (l : List UInt8) : Nat → UInt8 := fun n => l.getD n 0
def pad (f g : Nat → UInt8) : Nat → UInt8 := fun n => f n ^^^ g n
def pz : Nat → UInt8 := fun _ => 0
def scl (c : UInt8) (f : Nat → UInt8) : Nat → UInt8 := fun n => gm c (f n)
def sh (f : Nat → UInt8) : Nat → UInt8 := fun n => match n with | 0 => 0 | n + 1 => f n
def mulL : List UInt8 → (Nat → UInt8) → Nat → UInt8
  | [], _ => pz
  | c :: l, g => pad (scl c g) (sh (mulL l g))

theorem cf_nil : cf [] = pz := by funext n; simp [cf, pz]
theorem cf_cons (c : UInt8) (l : List UInt8) : cf (c :: l) = pad (fun n => if n = 0 then c else 0) (sh (cf l)) := by
  funext n
  cases n with
  | zero => simp [cf, pad, sh]
  | succ n => simp [cf, pad, sh]
theorem cf_zero (c : UInt8) (l : List UInt8) : cf (c :: l) 0 = c := by simp [cf]
theorem cf_succ (c : UInt8) (l : List UInt8) (n : Nat) : cf (c :: l) (n + 1) = cf l n := by simp [cf]
theorem cf_ge {l : List UInt8} {n : Nat} (h : l.length ≤ n) : cf l n = 0 := by simp [cf, List.getD_eq_getElem?_getD, List.getElem?_eq_none h]
theorem cf_lt {l : List UInt8} {n : Nat} (h : n < l.length) : cf l n = l[n] := by simp [cf, List.getD_eq_getElem?_getD, h]

theorem pad_comm (f g : Nat → UInt8) : pad f g = pad g f := funext fun n => xcomm _ _
theorem pad_assoc (f g h : Nat → UInt8) : pad (pad f g) h = pad f (pad g h) := funext fun n => xassoc _ _ _
theorem pad_left (f g h : Nat → UInt8) : pad f (pad g h) = pad g (pad f h) := funext fun n => xleft _ _ _
theorem pad_self (f : Nat → UInt8) : pad f f = pz := funext fun n => xself _
theorem pad_pz (f : Nat → UInt8) : pad f pz = f := funext fun n => xzero _
theorem pz_pad (f : Nat → UInt8) : pad pz f = f := funext fun n => zerox _
theorem pad_cancel (f g : Nat → UInt8) : pad f (pad f g) = g := funext fun n => xcancel _ _
theorem pad_eq_pz {f g : Nat → UInt8} : pad f g = pz ↔ f = g := by
  constructor
  · intro h; funext n; exact xeq_zero.1 (congrFun h n)
  · rintro rfl; exact pad_self _
theorem padac (a b c d : Nat → UInt8) : pad (pad a b) (pad c d) = pad (pad a c) (pad b d) := by rw [pad_assoc, pad_assoc, pad_left b c d]
theorem scl_pad (c : UInt8) (f g : Nat → UInt8) : scl c (pad f g) = pad (scl c f) (scl c g) := funext fun n => gm_xor _ _ _
theorem scl_xor (c d : UInt8) (f : Nat → UInt8) : scl (c ^^^ d) f = pad (scl c f) (scl d f) := funext fun n => xor_gm _ _ _
theorem scl_scl (c d : UInt8) (f : Nat → UInt8) : scl c (scl d f) = scl (gm c d) f := funext fun n => (gm_assoc _ _ _).symm
theorem scl_comm (c d : UInt8) (f : Nat → UInt8) : scl c (scl d f) = scl d (scl c f) := funext fun n => gm_left_comm _ _ _
theorem scl_pz (c : UInt8) : scl c pz = pz := funext fun n => gm_zero _
theorem scl_zero (f : Nat → UInt8) : scl 0 f = pz := funext fun n => zero_gm _
theorem scl_one (f : Nat → UInt8) : scl 1 f = f := funext fun n => one_gm _
theorem sh_pad (f g : Nat → UInt8) : sh (pad f g) = pad (sh f) (sh g) := by funext n; cases n <;> simp [sh, pad]
theorem sh_scl (c : UInt8) (f : Nat → UInt8) : sh (scl c f) = scl c (sh f) := by funext n; cases n <;> simp [sh, scl, gm_zero]
theorem sh_pz : sh pz = pz := by funext n; cases n <;> simp [sh, pz]
theorem sh_inj {f g : Nat → UInt8} (h : sh f = sh g) : f = g := by funext n; exact congrFun h (n + 1)

theorem mulL_pad (l : List UInt8) (f g : Nat → UInt8) : mulL l (pad f g) = pad (mulL l f) (mulL l g) := by
  induction l with
  | nil => exact (pad_pz _).symm
  | cons c l ih => simp only [mulL, ih, scl_pad, sh_pad]; exact padac _ _ _ _
theorem mulL_scl (l : List UInt8) (c : UInt8) (f : Nat → UInt8) : mulL l (scl c f) = scl c (mulL l f) := by
  induction l with
  | nil => exact (scl_pz _).symm
  | cons d l ih => simp only [mulL, ih, scl_pad, sh_scl]; rw [scl_comm]
theorem mulL_sh (l : List UInt8) (f : Nat → UInt8) : mulL l (sh f) = sh (mulL l f) := by
  induction l with
  | nil => exact sh_pz.symm
  | cons d l ih => simp only [mulL, ih, sh_pad, sh_scl]
theorem mulL_pz (l : List UInt8) : mulL l pz = pz := by
  induction l with
  | nil => rfl
  | cons d l ih => simp only [mulL, ih, scl_pz, sh_pz, pad_pz]
theorem mulL_swap (a b : List UInt8) (f : Nat → UInt8) : mulL a (mulL b f) = mulL b (mulL a f) := by
  induction a with
  | nil => exact (mulL_pz _).symm
  | cons c a ih => simp only [mulL, ih, mulL_pad, mulL_scl, mulL_sh]
def p1 : Nat → UInt8 := cf [1]
theorem p1_eq : p1 = fun n => if n = 0 then 1 else 0 := by funext n; cases n <;> simp [p1, cf]
theorem mulL_one (a : List UInt8) : mulL a p1 = cf a := by
  induction a with
  | nil => exact cf_nil.symm
  | cons c a ih =>
    simp only [mulL, ih, cf_cons]
    congr 1
    funext n
    rw [p1_eq]
    simp only [scl]
    split <;> simp [gm_one, gm_zero]
theorem one_mulL (f : Nat → UInt8) : mulL [1] f = f := by simp only [mulL, scl_one, sh_pz, pad_pz]
theorem mulL_comm (a b : List UInt8) : mulL a (cf b) = mulL b (cf a) := by
  rw [← mulL_one b, mulL_swap, mulL_one]

/-- The sum of the first values. -/
def sx (n : Nat) (h : Nat → UInt8) : UInt8 := match n with | 0 => 0 | n + 1 => sx n h ^^^ h n
theorem sx_left (n : Nat) (h : Nat → UInt8) : sx (n + 1) h = h 0 ^^^ sx n (fun i => h (i + 1)) := by
  induction n with
  | zero => simp [sx]
  | succ n ih => rw [sx, ih, sx, xassoc]
theorem sx_congr {n : Nat} {f g : Nat → UInt8} (h : ∀ i, i < n → f i = g i) : sx n f = sx n g := by
  induction n with
  | zero => rfl
  | succ n ih => rw [sx, sx, ih (fun i hi => h i (by omega)), h n (by omega)]
theorem sx_zero {n : Nat} {f : Nat → UInt8} (h : ∀ i, i < n → f i = 0) : sx n f = 0 := by
  induction n with
  | zero => rfl
  | succ n ih => rw [sx, ih (fun i hi => h i (by omega)), h n (by omega)]; rfl
theorem sx_xor (n : Nat) (f g : Nat → UInt8) : sx n (fun i => f i ^^^ g i) = sx n f ^^^ sx n g := by
  induction n with
  | zero => exact (xself 0).symm
  | succ n ih => simp only [sx, ih]; rw [xassoc, xassoc, xleft (sx n g)]
theorem sx_gm (n : Nat) (c : UInt8) (f : Nat → UInt8) : sx n (fun i => gm c (f i)) = gm c (sx n f) := by
  induction n with
  | zero => exact (gm_zero _).symm
  | succ n ih => simp only [sx, ih, gm_xor]
theorem sx_more {n m : Nat} {f : Nat → UInt8} (h : n ≤ m) (hz : ∀ i, n ≤ i → i < m → f i = 0) : sx m f = sx n f := by
  induction m with
  | zero => obtain rfl : n = 0 := by omega
            rfl
  | succ m ih =>
    by_cases e : n = m + 1
    · rw [e]
    · rw [sx, ih (by omega) (fun i h1 h2 => hz i h1 (by omega)), hz m (by omega) (by omega), xzero]
theorem mulL_conv (a : List UInt8) (g : Nat → UInt8) (n : Nat) : mulL a g n = sx (n + 1) (fun i => gm (cf a i) (g (n - i))) := by
  induction a generalizing n with
  | nil => exact (sx_zero (fun i _ => by rw [cf_nil]; exact zero_gm _)).symm
  | cons c a ih =>
    rw [sx_left]
    show gm c (g n) ^^^ sh (mulL a g) n = _
    rw [cf_zero, Nat.sub_zero]
    congr 1
    cases n with
    | zero => rfl
    | succ n =>
      show mulL a g n = _
      rw [ih]
      exact sx_congr fun i hi => by rw [cf_succ, show n + 1 - (i + 1) = n - i by omega]
theorem mulL_cf {a b : List UInt8} (h : cf a = cf b) (g : Nat → UInt8) : mulL a g = mulL b g := by funext n; rw [mulL_conv, mulL_conv, h]

/-- Higher by so many powers. -/
def shn : Nat → (Nat → UInt8) → Nat → UInt8 | 0, f => f | n + 1, f => sh (shn n f)
theorem shn_apply (n : Nat) (f : Nat → UInt8) (j : Nat) : shn n f j = if j < n then 0 else f (j - n) := by
  induction n generalizing j with
  | zero => simp [shn]
  | succ n ih =>
    cases j with
    | zero => simp [shn, sh]
    | succ j => show shn n f j = _; rw [ih]; simp
theorem mulL_append (a b : List UInt8) (g : Nat → UInt8) : mulL (a ++ b) g = pad (mulL a g) (shn a.length (mulL b g)) := by
  induction a with
  | nil => exact (pz_pad _).symm
  | cons c a ih => simp only [List.cons_append, mulL, ih, sh_pad, List.length_cons, shn, pad_assoc]
theorem mulL_single (c : UInt8) (g : Nat → UInt8) : mulL [c] g = scl c g := by simp only [mulL, sh_pz, pad_pz]
theorem cf_append (a b : List UInt8) : cf (a ++ b) = pad (cf a) (shn a.length (cf b)) := by
  rw [← mulL_one, mulL_append, mulL_one, mulL_one]
theorem mulL_ge {a : List UInt8} {g : Nat → UInt8} {m n : Nat} (hg : ∀ j, m ≤ j → g j = 0) (h : a.length + m ≤ n + 1) (h0 : 0 < m ∨ a.length ≤ n) : mulL a g n = 0 := by
  rw [mulL_conv]
  refine sx_zero fun i hi => ?_
  by_cases hl : i < a.length
  · rw [hg (n - i) (by omega), gm_zero]
  · rw [cf_ge (by omega), zero_gm]

/-! ## Lists of coefficients of a function -/
def ofF (n : Nat) (f : Nat → UInt8) : List UInt8 := (List.range n).map f
theorem ofF_length (n : Nat) (f : Nat → UInt8) : (ofF n f).length = n := by simp [ofF]
theorem cf_ofF (n : Nat) (f : Nat → UInt8) (j : Nat) : cf (ofF n f) j = if j < n then f j else 0 := by
  unfold cf ofF
  rw [List.getD_eq_getElem?_getD, List.getElem?_map]
  by_cases h : j < n
  · simp [h]
  · simp [h]
theorem cf_ofF_eq {n : Nat} {f : Nat → UInt8} (h : ∀ j, n ≤ j → f j = 0) : cf (ofF n f) = f := by
  funext j; rw [cf_ofF]; split
  · rfl
  · exact (h j (by omega)).symm
/-- The product, in as many coefficients as both have together. -/
def prodL (a b : List UInt8) : List UInt8 := ofF (a.length + b.length) (mulL a (cf b))
theorem cf_prodL (a b : List UInt8) : cf (prodL a b) = mulL a (cf b) := by
  refine cf_ofF_eq fun j hj => ?_
  by_cases h : a = []
  · subst h; rfl
  · exact mulL_ge (m := b.length) (fun i hi => cf_ge hi) (by omega) (by have : 0 < a.length := List.length_pos_iff.2 h; omega)
theorem prodL_length (a b : List UInt8) : (prodL a b).length = a.length + b.length := ofF_length _ _
theorem mulL_prodL (a b : List UInt8) (g : List UInt8) : mulL (prodL a b) (cf g) = mulL a (mulL b (cf g)) := by
  rw [mulL_comm, cf_prodL, mulL_swap, mulL_comm g b]

/-! ## Trimming -/
def trimL : List UInt8 → List UInt8
  | [] => []
  | c :: l => match trimL l with | [] => (if c = 0 then [] else [c]) | d :: t => c :: d :: t
theorem cf_trim (l : List UInt8) : cf (trimL l) = cf l := by
  induction l with
  | nil => rfl
  | cons c l ih =>
    simp only [trimL]
    split
    · rename_i h
      rw [h] at ih
      by_cases hc : c = 0
      · rw [if_pos hc]
        funext n
        cases n with
        | zero => rw [cf_zero, hc]; rfl
        | succ n => rw [cf_succ, ← ih]; simp [cf]
      · rw [if_neg hc, cf_cons, cf_cons c l, ← ih]
    · rename_i d t h
      rw [cf_cons, cf_cons c l, ← ih, h]
theorem trim_eq_nil {l : List UInt8} (h : cf l = pz) : trimL l = [] := by
  induction l with
  | nil => rfl
  | cons c l ih =>
    have h0 : c = 0 := by have := congrFun h 0; rwa [cf_zero] at this
    have h1 : cf l = pz := by funext n; have := congrFun h (n + 1); rwa [cf_succ] at this
    simp only [trimL, ih h1, if_pos h0]
theorem trim_ext {a b : List UInt8} (h : cf a = cf b) : trimL a = trimL b := by
  induction a generalizing b with
  | nil => rw [trim_eq_nil (l := b) (by rw [← h, cf_nil])]; rfl
  | cons c a ih =>
    cases b with
    | nil => rw [trim_eq_nil (l := c :: a) (by rw [h, cf_nil])]; rfl
    | cons d b =>
      have h0 : c = d := by have := congrFun h 0; rwa [cf_zero, cf_zero] at this
      have h1 : cf a = cf b := by funext n; have := congrFun h (n + 1); rwa [cf_succ, cf_succ] at this
      simp only [trimL, ih h1, h0]
theorem trim_iff {a b : List UInt8} : trimL a = trimL b ↔ cf a = cf b := ⟨fun h => by rw [← cf_trim a, h, cf_trim], trim_ext⟩
theorem trim_trim (l : List UInt8) : trimL (trimL l) = trimL l := trim_ext (cf_trim l)
theorem trim_length (l : List UInt8) : (trimL l).length ≤ l.length := by
  induction l with
  | nil => exact Nat.le_refl _
  | cons c l ih =>
    simp only [trimL]
    split
    · split <;> simp
    · rename_i d t h; rw [h] at ih; simp at ih ⊢; omega
theorem trim_last (l : List UInt8) (h : trimL l ≠ []) : cf l ((trimL l).length - 1) ≠ 0 := by
  induction l with
  | nil => exact absurd rfl h
  | cons c l ih =>
    simp only [trimL] at h ⊢
    split
    · rename_i h1
      rw [h1] at h
      by_cases hc : c = 0
      · simp [hc] at h
      · rw [if_neg hc]; simpa [cf_zero] using hc
    · rename_i d t h1
      rw [h1] at ih
      have := ih (by simp)
      simpa [cf_succ] using this
/-- The degree, and one. -/
def dl (l : List UInt8) : Nat := (trimL l).length
theorem dl_ge {l : List UInt8} {n : Nat} (h : dl l ≤ n) : cf l n = 0 := by rw [← cf_trim]; exact cf_ge h
theorem dl_last {l : List UInt8} (h : dl l ≠ 0) : cf l (dl l - 1) ≠ 0 := trim_last l (fun e => h (by unfold dl; rw [e]; rfl))
theorem dl_le {l : List UInt8} {n : Nat} : dl l ≤ n ↔ ∀ m, n ≤ m → cf l m = 0 := by
  constructor
  · intro h m hm; exact dl_ge (by omega)
  · intro h
    by_cases e : dl l = 0
    · omega
    · by_cases h2 : dl l ≤ n
      · exact h2
      · exact absurd (h _ (by omega)) (dl_last e)
theorem dl_cf {a b : List UInt8} (h : cf a = cf b) : dl a = dl b := by unfold dl; rw [trim_ext h]
theorem dl_zero {l : List UInt8} : dl l = 0 ↔ cf l = pz := by
  constructor
  · intro h; funext n; exact dl_ge (by omega)
  · intro h; unfold dl; rw [trim_eq_nil h]; rfl
theorem dl_zero' {l : List UInt8} : dl l = 0 ↔ trimL l = [] := by unfold dl; exact List.length_eq_zero_iff
theorem dl_length (l : List UInt8) : dl l ≤ l.length := trim_length l
theorem dl_eq {l : List UInt8} {n : Nat} (h : cf l n ≠ 0) (hz : ∀ m, n < m → cf l m = 0) : dl l = n + 1 := by
  have h1 : dl l ≤ n + 1 := dl_le.2 fun m hm => hz m (by omega)
  have h2 : ¬ dl l ≤ n := fun h3 => h (dl_ge h3)
  omega
/-- A list without noughts at its end. -/
theorem trim_id {l : List UInt8} (h : l = [] ∨ cf l (l.length - 1) ≠ 0) : trimL l = l := by
  rcases h with rfl | h
  · rfl
  · have h1 : dl l = l.length - 1 + 1 := dl_eq h fun m hm => cf_ge (by omega)
    have h2 : l.length ≠ 0 := fun e => h (cf_ge (by omega))
    refine List.ext_getElem (by unfold dl at h1; omega) fun i hi hj => ?_
    have := congrFun (cf_trim l) i
    rwa [cf_lt hi, cf_lt hj] at this

/-- The degree of a product. -/
theorem top_mul {a b : List UInt8} (ha : dl a ≠ 0) (hb : dl b ≠ 0) : mulL a (cf b) (dl a - 1 + (dl b - 1)) = gm (cf a (dl a - 1)) (cf b (dl b - 1)) := by
  rw [mulL_conv]
  have key : ∀ i, i ≠ dl a - 1 → gm (cf a i) (cf b (dl a - 1 + (dl b - 1) - i)) = 0 := fun i hi => by
    by_cases h : i < dl a - 1
    · rw [dl_ge (l := b) (by omega), gm_zero]
    · rw [dl_ge (l := a) (by omega), zero_gm]
  rw [sx_more (n := dl a - 1 + 1) (by omega) (fun i h1 h2 => key i (by omega)), sx, sx_zero (fun i hi => key i (by omega)), zerox, Nat.add_sub_cancel_left]
theorem dl_mul {a b c : List UInt8} (hc : cf c = mulL a (cf b)) (ha : dl a ≠ 0) (hb : dl b ≠ 0) : dl c = dl a + dl b - 1 := by
  have h1 := top_mul ha hb
  have h2 : cf c (dl a - 1 + (dl b - 1)) ≠ 0 := by
    rw [hc, h1]
    intro h
    rcases gm_eq_zero.1 h with h | h
    · exact dl_last ha h
    · exact dl_last hb h
  have h3 := dl_eq h2 fun m hm => by
    rw [hc, mulL_conv]
    refine sx_zero fun i hi => ?_
    by_cases h : i < dl a
    · rw [dl_ge (l := b) (by omega), gm_zero]
    · rw [dl_ge (l := a) (by omega), zero_gm]
  omega
theorem dl_mul_zero {a b c : List UInt8} (hc : cf c = mulL a (cf b)) (h : dl a = 0 ∨ dl b = 0) : dl c = 0 := by
  rw [dl_zero]
  rcases h with h | h
  · rw [hc, mulL_comm, dl_zero.1 h, mulL_pz]
  · rw [hc, dl_zero.1 h, mulL_pz]
/-- Nothing but the nought makes another one's product nought. -/
theorem mul_cancel {a b : List UInt8} (hb : dl b ≠ 0) (h : mulL a (cf b) = pz) : cf a = pz := by
  by_cases ha : dl a = 0
  · exact dl_zero.1 ha
  · have h1 := dl_mul (c := prodL a b) (cf_prodL a b) ha hb
    have h2 : dl (prodL a b) = 0 := dl_zero.2 (by rw [cf_prodL, h])
    omega
/-- Sums of lists. -/
def addL : List UInt8 → List UInt8 → List UInt8
  | [], b => b
  | a, [] => a
  | x :: a, y :: b => (x ^^^ y) :: addL a b
theorem cf_addL (a b : List UInt8) : cf (addL a b) = pad (cf a) (cf b) := by
  induction a generalizing b with
  | nil => rw [addL, cf_nil, pz_pad]
  | cons x a ih =>
    cases b with
    | nil => rw [cf_nil, pad_pz]; rfl
    | cons y b =>
      funext n
      cases n with
      | zero => simp [addL, cf_zero, pad]
      | succ n => have := congrFun (ih b) n; simpa [addL, cf_succ, pad] using this
theorem addL_length (a b : List UInt8) : (addL a b).length = max a.length b.length := by
  induction a generalizing b with
  | nil => simp [addL]
  | cons x a ih =>
    cases b with
    | nil => simp [addL]
    | cons y b => simp [addL, ih]
theorem dl_add {a b c : List UInt8} (hc : cf c = pad (cf a) (cf b)) : dl c ≤ max (dl a) (dl b) := by
  rw [dl_le]
  intro m hm
  rw [hc]
  show cf a m ^^^ cf b m = 0
  rw [dl_ge (l := a) (by omega), dl_ge (l := b) (by omega), xself]

/-- The quotient and the rest are one. -/
theorem div_unique {b q r q' r' : List UInt8} (hb : dl b ≠ 0) (hr : dl r < dl b) (hr' : dl r' < dl b) (h : pad (mulL q (cf b)) (cf r) = pad (mulL q' (cf b)) (cf r')) : cf q = cf q' ∧ cf r = cf r' := by
  have h1 : pad (mulL (addL q q') (cf b)) (cf (addL r r')) = pz := by
    rw [mulL_comm, cf_addL, cf_addL, mulL_pad, mulL_comm b q, mulL_comm b q', padac, h, pad_self]
  have h2 : mulL (addL q q') (cf b) = cf (addL r r') := pad_eq_pz.1 h1
  have h3 : dl (addL q q') = 0 := by
    by_cases e : dl (addL q q') = 0
    · exact e
    · have h4 := dl_mul (c := addL r r') h2.symm e hb
      have h5 := dl_add (cf_addL r r')
      omega
  have h6 : cf q = cf q' := by have := dl_zero.1 h3; rw [cf_addL] at this; exact pad_eq_pz.1 this
  refine ⟨h6, ?_⟩
  rw [mulL_cf h6] at h
  have := congrArg (pad (mulL q' (cf b))) h
  rwa [pad_cancel, pad_cancel] at this

end Go.Proofs.YtpkpfebhdgbgbaaGreatDoor
