/- Plain: what syndromes are made of, and Forney's quotient. No condition. -/
import Derived.Test.YtahjpjhkbohpnaaDoorMe3
namespace Go.Proofs.YtahjpjhkbohpnaaDoor

/-- The product of 1 + X x. -/
def prodP : List UInt8 → List UInt8
  | [] => [1]
  | X :: l => prodL [1, X] (prodP l)
theorem cf_prodP (X : UInt8) (l : List UInt8) : cf (prodP (X :: l)) = mulL [1, X] (cf (prodP l)) := cf_prodL _ _
/-- The series that so many wrongs make: X, and what is wrong there. -/
def serE : List (UInt8 × UInt8) → Nat → UInt8
  | [] => pz
  | (X, e) :: w => pad (scl e (xpw X)) (serE w)
def numE : List (UInt8 × UInt8) → Nat → UInt8
  | [] => pz
  | (X, e) :: w => pad (scl e (cf (prodP (w.map Prod.fst)))) (mulL [1, X] (numE w))
theorem mul_geo (X : UInt8) : mulL [1, X] (xpw X) = cf [1] := by
  funext n
  show gm 1 (xpw X n) ^^^ sh (pad (scl X (xpw X)) (sh pz)) n = _
  rw [one_gm]
  cases n with
  | zero => show xpw X 0 ^^^ 0 = 1; rw [xzero]; rfl
  | succ n =>
    show gm (xpw X n) X ^^^ (gm X (xpw X n) ^^^ sh pz n) = 0
    rw [sh_pz, gm_comm X]
    show gm (xpw X n) X ^^^ (gm (xpw X n) X ^^^ 0) = 0
    rw [xzero, xself]
theorem prod_ser (w : List (UInt8 × UInt8)) : mulL (prodP (w.map Prod.fst)) (serE w) = numE w := by
  induction w with
  | nil => exact mulL_pz _
  | cons p w ih =>
    obtain ⟨X, e⟩ := p
    show mulL (prodL [1, X] (prodP (w.map Prod.fst))) (pad (scl e (xpw X)) (serE w)) = pad (scl e (cf (prodP (w.map Prod.fst)))) (mulL [1, X] (numE w))
    rw [mulL_prod (cf_prodL _ _), mulL_pad, mulL_pad, mulL_scl, mulL_scl, mulL_swap, mul_geo, ih, mulL_comm, mulL_single, scl_one]
theorem deg_prodP (l : List UInt8) : ∀ j, l.length < j → cf (prodP l) j = 0 := by
  induction l with
  | nil => intro j hj; exact cf_ge hj
  | cons X l ih =>
    intro j hj
    rw [List.length_cons] at hj
    rw [cf_prodP]
    exact mulL_ge (m := l.length + 1) (fun i hi => ih i (by omega)) (by show 2 + (l.length + 1) ≤ j + 1; omega) (.inl (by omega))
theorem deg_numE (w : List (UInt8 × UInt8)) : ∀ j, w.length ≤ j → numE w j = 0 := by
  induction w with
  | nil => intro j _; rfl
  | cons p w ih =>
    obtain ⟨X, e⟩ := p
    intro j hj
    rw [List.length_cons] at hj
    show gm e (cf (prodP (w.map Prod.fst)) j) ^^^ mulL [1, X] (numE w) j = 0
    rw [deg_prodP _ j (by rw [List.length_map]; omega), gm_zero, zerox]
    cases w with
    | nil => rw [show numE [] = pz from rfl, mulL_pz]; rfl
    | cons q w => exact mulL_ge (m := (q :: w).length) ih (by show 2 + (q :: w).length ≤ j + 1; omega) (.inl (by simp))
theorem prodP_zero (l : List UInt8) : cf (prodP l) 0 = 1 := by
  induction l with
  | nil => rfl
  | cons X l ih => rw [cf_prodP, mulL_cf0, ih, gm_one]; rfl
theorem der_lin (X : UInt8) (f : Nat → UInt8) : der (mulL [1, X] f) = pad (scl X f) (mulL [1, X] (der f)) := by
  have hm : ∀ g : Nat → UInt8, ∀ j, mulL [1, X] g j = g j ^^^ sh (scl X g) j := fun g j => by
    show gm 1 (g j) ^^^ sh (pad (scl X g) (sh pz)) j = _
    rw [one_gm, sh_pz, pad_pz]
  funext i
  show (if i % 2 = 0 then mulL [1, X] f (i + 1) else 0) = gm X (f i) ^^^ mulL [1, X] (der f) i
  rw [hm, hm]
  show (if i % 2 = 0 then f (i + 1) ^^^ gm X (f i) else 0) = gm X (f i) ^^^ ((if i % 2 = 0 then f (i + 1) else 0) ^^^ sh (scl X (der f)) i)
  cases i with
  | zero =>
    rw [if_pos rfl, if_pos rfl]
    show _ = _ ^^^ (_ ^^^ 0)
    rw [xzero, xcomm]
  | succ i =>
    show _ = _ ^^^ (_ ^^^ gm X (if i % 2 = 0 then f (i + 1) else 0))
    by_cases h : i % 2 = 0
    · rw [if_neg (by omega), if_neg (by omega), if_pos h, zerox, xself]
    · rw [if_pos (by omega), if_pos (by omega), if_neg h, gm_zero, xzero, xcomm]
theorem der_prodP (l : List UInt8) : der (cf (prodP l)) = numE (l.map fun X => (X, X)) := by
  induction l with
  | nil => funext i; show (if i % 2 = 0 then cf [1] (i + 1) else 0) = 0; rw [cf_ge (by show 1 ≤ i + 1; omega), ite_self]
  | cons X l ih =>
    rw [cf_prodP, der_lin, ih]
    show _ = pad (scl X (cf (prodP ((l.map fun X => (X, X)).map Prod.fst)))) _
    rw [List.map_map]
    simp [Function.comp_def]
/-- What the other factors are at y. -/
def restP (X y : UInt8) : List UInt8 → UInt8
  | [] => 1
  | Z :: l => gm (if Z = X then 1 else 1 ^^^ gm Z y) (restP X y l)
theorem ev_lin (X y : UInt8) : ev [1, X] y = 1 ^^^ gm X y := by
  show 1 ^^^ gm y (X ^^^ gm y 0) = _
  rw [gm_zero, xzero, gm_comm]
theorem ev_prodP (X y : UInt8) (l : List UInt8) (h : X ∉ l) : ev (prodP l) y = restP X y l := by
  induction l with
  | nil => exact ev_single 1 y
  | cons Z l ih =>
    rw [ev_mul y (cf_prodP Z l), ev_lin, ih (fun hm => h (List.mem_cons_of_mem _ hm))]
    show _ = gm (if Z = X then 1 else 1 ^^^ gm Z y) _
    rw [if_neg (fun e => h (by rw [e]; exact List.mem_cons_self))]
theorem ev_prodP_in {X y : UInt8} {l : List UInt8} (h : X ∈ l) (hy : gm X y = 1) : ev (prodP l) y = 0 := by
  induction l with
  | nil => cases h
  | cons Z l ih =>
    rw [ev_mul y (cf_prodP Z l), ev_lin]
    rcases List.mem_cons.1 h with rfl | h
    · rw [hy, xself, zero_gm]
    · rw [ih h, gm_zero]
theorem rest_ne {X y : UInt8} (hy : gm X y = 1) (l : List UInt8) : restP X y l ≠ 0 := by
  have hy0 : y ≠ 0 := fun e => by rw [e, gm_zero] at hy; exact absurd hy (by decide)
  induction l with
  | nil => exact (by decide : (1 : UInt8) ≠ 0)
  | cons Z l ih =>
    intro h0
    rcases gm_eq_zero.1 h0 with h1 | h1
    · split at h1
      · exact absurd h1 (by decide)
      · rename_i hne
        refine hne (gm_cancel hy0 ?_)
        rw [gm_comm y Z, gm_comm y X, hy]
        exact (xeq_zero.1 h1).symm
    · exact ih h1
/-- The numerator where one factor is 0. -/
theorem num_at {X y : UInt8} (hy : gm X y = 1) (w : List (UInt8 × UInt8)) : ∀ (n : Nat) (e : UInt8), w.length ≤ n → (w.map Prod.fst).Nodup → (X, e) ∈ w → evn n (numE w) y = gm e (restP X y (w.map Prod.fst)) := by
  induction w with
  | nil => intro n e _ _ h; cases h
  | cons p w ih =>
    obtain ⟨Z, e'⟩ := p
    intro n e hn hnd hm
    rw [List.length_cons] at hn
    obtain ⟨hZ, hnd⟩ := List.nodup_cons.1 hnd
    have hev : evn n (numE ((Z, e') :: w)) y = gm e' (ev (prodP (w.map Prod.fst)) y) ^^^ gm (1 ^^^ gm Z y) (evn w.length (numE w) y) := by
      rw [show numE ((Z, e') :: w) = pad (scl e' (cf (prodP (w.map Prod.fst)))) (mulL [1, Z] (numE w)) from rfl, evn_pad, evn_scl]
      congr 1
      · congr 1
        have h1 := ev_evn (prodP (w.map Prod.fst)) y
        have h2 := evn_more (n := w.length + 1) (m := max n (prodP (w.map Prod.fst)).length) y (f := cf (prodP (w.map Prod.fst))) (by omega) (fun i hi => deg_prodP _ i (by rw [List.length_map]; omega))
        have h3 := evn_more (n := n) (m := max n (prodP (w.map Prod.fst)).length) y (f := cf (prodP (w.map Prod.fst))) (by omega) (fun i hi => deg_prodP _ i (by rw [List.length_map]; omega))
        have h4 := evn_more (n := (prodP (w.map Prod.fst)).length) (m := max n (prodP (w.map Prod.fst)).length) y (f := cf (prodP (w.map Prod.fst))) (by omega) (fun i hi => cf_ge hi)
        rw [h1, ← h4, h3]
      · have h1 := evn_mul [1, Z] (numE w) w.length (n + 2) y (deg_numE w) (by show 2 + w.length ≤ n + 2; omega)
        rw [ev_lin] at h1
        rw [← h1]
        refine (evn_more y (by omega) fun i hi => ?_).symm
        cases w with
        | nil => rw [show numE [] = pz from rfl, mulL_pz]; rfl
        | cons q w => exact mulL_ge (m := (q :: w).length) (deg_numE _) (by show 2 + (q :: w).length ≤ i + 1; simp only [List.length_cons] at hn ⊢; omega) (.inl (by simp))
    rw [hev]
    show _ = gm e (gm (if Z = X then 1 else 1 ^^^ gm Z y) (restP X y (w.map Prod.fst)))
    rcases List.mem_cons.1 hm with h | h
    · injection h with h1 h2
      subst h1 h2
      rw [hy, xself, zero_gm, xzero, if_pos rfl, one_gm, ev_prodP X y _ hZ]
    · have hX : X ∈ w.map Prod.fst := List.mem_map.2 ⟨_, h, rfl⟩
      have hne : Z ≠ X := fun e => hZ (by rw [e]; exact hX)
      rw [ev_prodP_in hX hy, gm_zero, zerox, if_neg hne, ih w.length e (Nat.le_refl _) hnd h, gm_left_comm]
/-- Forney's quotient is what is wrong. -/
theorem forney {X e R : UInt8} (hX : X ≠ 0) (hR : R ≠ 0) : gm X (gm (gm e R) (inv (gm X R))) = e := by
  have h0 : gm X R ≠ 0 := fun h => (gm_eq_zero.1 h).elim hX hR
  rw [gm_assoc e R, gm_left_comm X e, ← gm_assoc X R, gm_inv h0, gm_one]
end Go.Proofs.YtahjpjhkbohpnaaDoor
