/- Plain: what syndromes are made of, and Forney's quotient. No condition. Plain: the locator's loop finds what is wrong, if that is not too much. No condition. Plain: what is wrong, place by place, and the text put right. No condition. -/
import Derived.Test.YtpkpfebhdgbgbaaGreatDoorMe3
namespace Go.Proofs.YtpkpfebhdgbgbaaGreatDoor

/-- The product of 1 + X x. -/
def prodP : List UInt8 → List UInt8
  | [] => [1]
  | X :: l => prodL [1, X] (prodP l)
theorem cf_prodP (X : UInt8) (l : List UInt8) : cf (prodP (X :: l)) = mulL [1, X] (cf (prodP l)) := cf_prodL _ _
/-- The series that so many wrongs make: X, and what is wrong there. -/
def serE : List (UInt8 × UInt8) → Nat → UInt8
  | [] => pz
  | (X, e) :: w => pad (scl e (xpw X)) (serE w)
def numE : List (UInt8 × UInt8) → Nat → UInt8
  | [] => pz
  | (X, e) :: w => pad (scl e (cf (prodP (w.map Prod.fst)))) (mulL [1, X] (numE w))
theorem mul_geo (X : UInt8) : mulL [1, X] (xpw X) = cf [1] := by
  funext n
  show gm 1 (xpw X n) ^^^ sh (pad (scl X (xpw X)) (sh pz)) n = _
  rw [one_gm]
  cases n with
  | zero => show xpw X 0 ^^^ 0 = 1; rw [xzero]; rfl
  | succ n =>
    show gm (xpw X n) X ^^^ (gm X (xpw X n) ^^^ sh pz n) = 0
    rw [sh_pz, gm_comm X]
    show gm (xpw X n) X ^^^ (gm (xpw X n) X ^^^ 0) = 0
    rw [xzero, xself]
theorem prod_ser (w : List (UInt8 × UInt8)) : mulL (prodP (w.map Prod.fst)) (serE w) = numE w := by
  induction w with
  | nil => exact mulL_pz _
  | cons p w ih =>
    obtain ⟨X, e⟩ := p
    show mulL (prodL [1, X] (prodP (w.map Prod.fst))) (pad (scl e (xpw X)) (serE w)) = pad (scl e (cf (prodP (w.map Prod.fst)))) (mulL [1, X] (numE w))
    rw [mulL_prod (cf_prodL _ _), mulL_pad, mulL_pad, mulL_scl, mulL_scl, mulL_swap, mul_geo, ih, mulL_comm, mulL_single, scl_one]
theorem deg_prodP (l : List UInt8) : ∀ j, l.length < j → cf (prodP l) j = 0 := by
  induction l with
  | nil => intro j hj; exact cf_ge hj
  | cons X l ih =>
    intro j hj
    rw [List.length_cons] at hj
    rw [cf_prodP]
    exact mulL_ge (m := l.length + 1) (fun i hi => ih i (by omega)) (by show 2 + (l.length + 1) ≤ j + 1; omega) (.inl (by omega))
theorem deg_numE (w : List (UInt8 × UInt8)) : ∀ j, w.length ≤ j → numE w j = 0 := by
  induction w with
  | nil => intro j _; rfl
  | cons p w ih =>
    obtain ⟨X, e⟩ := p
    intro j hj
    rw [List.length_cons] at hj
    show gm e (cf (prodP (w.map Prod.fst)) j) ^^^ mulL [1, X] (numE w) j = 0
    rw [deg_prodP _ j (by rw [List.length_map]; omega), gm_zero, zerox]
    cases w with
    | nil => rw [show numE [] = pz from rfl, mulL_pz]; rfl
    | cons q w => exact mulL_ge (m := (q :: w).length) ih (by show 2 + (q :: w).length ≤ j + 1; omega) (.inl (by simp))
theorem prodP_zero (l : List UInt8) : cf (prodP l) 0 = 1 := by
  induction l with
  | nil => rfl
  | cons X l ih => rw [cf_prodP, mulL_cf0, ih, gm_one]; rfl
theorem der_lin (X : UInt8) (f : Nat → UInt8) : der (mulL [1, X] f) = pad (scl X f) (mulL [1, X] (der f)) := by
  have hm : ∀ g : Nat → UInt8, ∀ j, mulL [1, X] g j = g j ^^^ sh (scl X g) j := fun g j => by
    show gm 1 (g j) ^^^ sh (pad (scl X g) (sh pz)) j = _
    rw [one_gm, sh_pz, pad_pz]
  funext i
  show (if i % 2 = 0 then mulL [1, X] f (i + 1) else 0) = gm X (f i) ^^^ mulL [1, X] (der f) i
  rw [hm, hm]
  show (if i % 2 = 0 then f (i + 1) ^^^ gm X (f i) else 0) = gm X (f i) ^^^ ((if i % 2 = 0 then f (i + 1) else 0) ^^^ sh (scl X (der f)) i)
  cases i with
  | zero =>
    rw [if_pos rfl, if_pos rfl]
    show _ = _ ^^^ (_ ^^^ 0)
    rw [xzero, xcomm]
  | succ i =>
    show _ = _ ^^^ (_ ^^^ gm X (if i % 2 = 0 then f (i + 1) else 0))
    by_cases h : i % 2 = 0
    · rw [if_neg (by omega), if_neg (by omega), if_pos h, zerox, xself]
    · rw [if_pos (by omega), if_pos (by omega), if_neg h, gm_zero, xzero, xcomm]
theorem der_prodP (l : List UInt8) : der (cf (prodP l)) = numE (l.map fun X => (X, X)) := by
  induction l with
  | nil => funext i; show (if i % 2 = 0 then cf [1] (i + 1) else 0) = 0; rw [cf_ge (by show 1 ≤ i + 1; omega), ite_self]
  | cons X l ih =>
    rw [cf_prodP, der_lin, ih]
    show _ = pad (scl X (cf (prodP ((l.map fun X => (X, X)).map Prod.fst)))) _
    rw [List.map_map]
    simp [Function.comp_def]
/-- What the other factors are at y. -/
def restP (X y : UInt8) : List UInt8 → UInt8
  | [] => 1
  | Z :: l => gm (if Z = X then 1 else 1 ^^^ gm Z y) (restP X y l)
theorem ev_lin (X y : UInt8) : ev [1, X] y = 1 ^^^ gm X y := by
  show 1 ^^^ gm y (X ^^^ gm y 0) = _
  rw [gm_zero, xzero, gm_comm]
theorem ev_prodP (X y : UInt8) (l : List UInt8) (h : X ∉ l) : ev (prodP l) y = restP X y l := by
  induction l with
  | nil => exact ev_single 1 y
  | cons Z l ih =>
    rw [ev_mul y (cf_prodP Z l), ev_lin, ih (fun hm => h (List.mem_cons_of_mem _ hm))]
    show _ = gm (if Z = X then 1 else 1 ^^^ gm Z y) _
    rw [if_neg (fun e => h (by rw [e]; exact List.mem_cons_self))]
theorem ev_prodP_in {X y : UInt8} {l : List UInt8} (h : X ∈ l) (hy : gm X y = 1) : ev (prodP l) y = 0 := by
  induction l with
  | nil => cases h
  | cons Z l ih =>
    rw [ev_mul y (cf_prodP Z l), ev_lin]
    rcases List.mem_cons.1 h with rfl | h
    · rw [hy, xself, zero_gm]
    · rw [ih h, gm_zero]
theorem rest_ne {X y : UInt8} (hy : gm X y = 1) (l : List UInt8) : restP X y l ≠ 0 := by
  have hy0 : y ≠ 0 := fun e => by rw [e, gm_zero] at hy; exact absurd hy (by decide)
  induction l with
  | nil => exact (by decide : (1 : UInt8) ≠ 0)
  | cons Z l ih =>
    intro h0
    rcases gm_eq_zero.1 h0 with h1 | h1
    · split at h1
      · exact absurd h1 (by decide)
      · rename_i hne
        refine hne (gm_cancel hy0 ?_)
        rw [gm_comm y Z, gm_comm y X, hy]
        exact (xeq_zero.1 h1).symm
    · exact ih h1
/-- The numerator where one factor is 0. -/
theorem num_at {X y : UInt8} (hy : gm X y = 1) (w : List (UInt8 × UInt8)) : ∀ (n : Nat) (e : UInt8), w.length ≤ n → (w.map Prod.fst).Nodup → (X, e) ∈ w → evn n (numE w) y = gm e (restP X y (w.map Prod.fst)) := by
  induction w with
  | nil => intro n e _ _ h; cases h
  | cons p w ih =>
    obtain ⟨Z, e'⟩ := p
    intro n e hn hnd hm
    rw [List.length_cons] at hn
    obtain ⟨hZ, hnd⟩ := List.nodup_cons.1 hnd
    have hev : evn n (numE ((Z, e') :: w)) y = gm e' (ev (prodP (w.map Prod.fst)) y) ^^^ gm (1 ^^^ gm Z y) (evn w.length (numE w) y) := by
      rw [show numE ((Z, e') :: w) = pad (scl e' (cf (prodP (w.map Prod.fst)))) (mulL [1, Z] (numE w)) from rfl, evn_pad, evn_scl]
      congr 1
      · congr 1
        have h1 := ev_evn (prodP (w.map Prod.fst)) y
        have h2 := evn_more (n := w.length + 1) (m := max n (prodP (w.map Prod.fst)).length) y (f := cf (prodP (w.map Prod.fst))) (by omega) (fun i hi => deg_prodP _ i (by rw [List.length_map]; omega))
        have h3 := evn_more (n := n) (m := max n (prodP (w.map Prod.fst)).length) y (f := cf (prodP (w.map Prod.fst))) (by omega) (fun i hi => deg_prodP _ i (by rw [List.length_map]; omega))
        have h4 := evn_more (n := (prodP (w.map Prod.fst)).length) (m := max n (prodP (w.map Prod.fst)).length) y (f := cf (prodP (w.map Prod.fst))) (by omega) (fun i hi => cf_ge hi)
        rw [h1, ← h4, h3]
      · have h1 := evn_mul [1, Z] (numE w) w.length (n + 2) y (deg_numE w) (by show 2 + w.length ≤ n + 2; omega)
        rw [ev_lin] at h1
        rw [← h1]
        refine (evn_more y (by omega) fun i hi => ?_).symm
        cases w with
        | nil => rw [show numE [] = pz from rfl, mulL_pz]; rfl
        | cons q w => exact mulL_ge (m := (q :: w).length) (deg_numE _) (by show 2 + (q :: w).length ≤ i + 1; simp only [List.length_cons] at hn ⊢; omega) (.inl (by simp))
    rw [hev]
    show _ = gm e (gm (if Z = X then 1 else 1 ^^^ gm Z y) (restP X y (w.map Prod.fst)))
    rcases List.mem_cons.1 hm with h | h
    · injection h with h1 h2
      subst h1 h2
      rw [hy, xself, zero_gm, xzero, if_pos rfl, one_gm, ev_prodP X y _ hZ]
    · have hX : X ∈ w.map Prod.fst := List.mem_map.2 ⟨_, h, rfl⟩
      have hne : Z ≠ X := fun e => hZ (by rw [e]; exact hX)
      rw [ev_prodP_in hX hy, gm_zero, zerox, if_neg hne, ih w.length e (Nat.le_refl _) hnd h, gm_left_comm]
/-- Forney's quotient is what is wrong. -/
theorem forney {X e R : UInt8} (hX : X ≠ 0) (hR : R ≠ 0) : gm X (gm (gm e R) (inv (gm X R))) = e := by
  have h0 : gm X R ≠ 0 := fun h => (gm_eq_zero.1 h).elim hX hR
  rw [gm_assoc e R, gm_left_comm X e, ← gm_assoc X R, gm_inv h0, gm_one]
end Go.Proofs.YtpkpfebhdgbgbaaGreatDoor
namespace Go.Proofs.YtpkpfebhdgbgbaaGreatDoor

theorem step_local {p : Nat} {S S' : Nat → UInt8} {r : Nat} (b : Bm) (h : ∀ j, j ≤ r → S j = S' j) : stepB p S r b = stepB p S' r b := by
  have hg : gapB S r b = gapB S' r b := mulL_local h
  unfold stepB
  rw [hg]
theorem run_local {p m : Nat} {S S' : Nat → UInt8} (h : ∀ j, j < m → S j = S' j) (n : Nat) : ∀ (r : Nat) (b : Bm), r + n ≤ m → runB p S r n b = runB p S' r n b := by
  induction n with
  | zero => intro r b _; rfl
  | succ n ih =>
    intro r b hr
    show runB p S (r + 1) n (stepB p S r b) = runB p S' (r + 1) n (stepB p S' r b)
    rw [step_local b (fun j hj => h j (by omega)), ih (r + 1) _ (by omega)]
theorem prodP_app (K O : List UInt8) : cf (prodP (K ++ O)) = mulL (prodP K) (cf (prodP O)) := by
  induction K with
  | nil => show cf (prodP O) = mulL [1] _; rw [mulL_single, scl_one]
  | cons X K ih =>
    rw [List.cons_append, cf_prodP, ih]
    exact (mulL_prod (cf_prodL _ _) _).symm
theorem prodP_top (l : List UInt8) (h : ∀ X ∈ l, X ≠ 0) : cf (prodP l) l.length ≠ 0 := by
  induction l with
  | nil => exact (by decide : (1 : UInt8) ≠ 0)
  | cons X l ih =>
    rw [cf_prodP]
    show gm 1 (cf (prodP l) (l.length + 1)) ^^^ (gm X (cf (prodP l) l.length) ^^^ sh pz l.length) ≠ 0
    rw [deg_prodP l _ (Nat.lt_succ_self _), gm_zero, zerox, sh_pz]
    show gm X (cf (prodP l) l.length) ^^^ 0 ≠ 0
    rw [xzero]
    intro h0
    rcases gm_eq_zero.1 h0 with h1 | h1
    · exact h X List.mem_cons_self h1
    · exact ih (fun Z hZ => h Z (List.mem_cons_of_mem _ hZ)) h1
theorem ev_at0 (l : List UInt8) : ev l 0 = cf l 0 := by
  cases l with
  | nil => rfl
  | cons c l => show c ^^^ gm 0 _ = c; rw [zero_gm, xzero]
theorem inv_inj {a b : UInt8} (ha : a ≠ 0) (hb : b ≠ 0) (h : inv a = inv b) : a = b := by
  have h1 := gm_inv ha
  have h2 := gm_inv hb
  rw [h] at h1
  exact gm_cancel (a := inv b) (inv_ne hb) (by rw [gm_comm, h1, gm_comm, h2])
/-- The loop finds the product over all that is wrong or lost. -/
theorem bm_found {K O : List UInt8} {w : List (UInt8 × UInt8)} {G : List UInt8} {S : Nat → UInt8} (hw : w.map Prod.fst = K ++ O) (hnd : (K ++ O).Nodup) (h0 : ∀ X ∈ K ++ O, X ≠ 0)
    (he : ∀ X e, (X, e) ∈ w → X ∈ O → e ≠ 0) (hv : K.length + 2 * O.length ≤ 64) (hG : cf G = cf (prodP K)) (hS : ∀ j, j < 64 → S j = serE w j) :
    cf (runB K.length S K.length (64 - K.length) ⟨G, G, K.length⟩).found = cf (prodP (K ++ O)) ∧ (runB K.length S K.length (64 - K.length) ⟨G, G, K.length⟩).long = K.length + O.length := by
  rw [run_local hS _ _ _ (by omega)]
  obtain ⟨T, hT⟩ : ∃ T, T = mulL G (serE w) := ⟨_, rfl⟩
  obtain ⟨c, d, hk⟩ := kept_run hT (64 - K.length) (kept_start K.length G T)
  rw [show K.length + (64 - K.length) = 64 by omega] at hk
  have hwl : w.length = K.length + O.length := by have := congrArg List.length hw; simpa using this
  have hnum : mulL (prodP O) T = numE w := by
    rw [hT, mulL_cf hG, ← prod_ser w, hw, mulL_swap]
    exact (mulL_prod (prodP_app K O) _).symm
  have ha1 := prodP_zero O
  have had := deg_prodP O
  have haz : ∀ j, K.length + O.length ≤ j → mulL (prodP O) T j = 0 := fun j hj => by rw [hnum]; exact deg_numE w j (by omega)
  have hl := run_long hT ha1 had haz (64 - K.length) (kept_start K.length G T) (Nat.le_add_right _ _)
  obtain ⟨b, hb⟩ : ∃ b, b = runB K.length (serE w) K.length (64 - K.length) ⟨G, G, K.length⟩ := ⟨_, rfl⟩
  rw [← hb] at hk hl ⊢
  have hroots : ∀ X ∈ O, ev c (inv X) = 0 := by
    intro X hX
    have hX0 := h0 X (List.mem_append_right _ hX)
    have hy := gm_inv hX0
    have hXw : X ∈ w.map Prod.fst := by rw [hw]; exact List.mem_append_right _ hX
    obtain ⟨⟨X', e⟩, hm, rfl⟩ := List.mem_map.1 hXw
    refine bm_zero hk had haz hl hv (ev_prodP_in hX hy) ?_
    rw [hnum, num_at hy w (K.length + O.length) e (by omega) (by rw [hw]; exact hnd) hm]
    intro h1
    rcases gm_eq_zero.1 h1 with h2 | h2
    · exact he _ e hm hX h2
    · exact rest_ne hy _ h2
  have hca : cf c = cf (prodP O) := by
    have hdiff : cf (addL c (prodP O)) = pz := by
      refine few_roots (0 :: O.map inv) _ ?_ (fun j hj => ?_) (fun x hx => ?_)
      · refine List.nodup_cons.2 ⟨fun hm => ?_, ?_⟩
        · obtain ⟨X, hX, h1⟩ := List.mem_map.1 hm
          exact inv_ne (h0 X (List.mem_append_right _ hX)) h1
        · have hO := (List.nodup_append.1 hnd).2.1
          refine List.pairwise_map.2 (hO.imp_of_mem fun {a b} ha hb hne h1 => hne ?_)
          exact inv_inj (h0 a (List.mem_append_right _ ha)) (h0 b (List.mem_append_right _ hb)) h1
      · rw [List.length_cons, List.length_map] at hj
        rw [cf_addL]
        show cf c j ^^^ cf (prodP O) j = 0
        rw [hk.dc j (by omega), had j (by omega), xzero]
      · rcases List.mem_cons.1 hx with rfl | hx
        · rw [ev_at0, cf_addL]
          show cf c 0 ^^^ cf (prodP O) 0 = 0
          rw [hk.one, ha1, xself]
        · obtain ⟨X, hX, rfl⟩ := List.mem_map.1 hx
          rw [ev_add _ (cf_addL c (prodP O)), hroots X hX, ev_prodP_in hX (gm_inv (h0 X (List.mem_append_right _ hX))), xzero]
    rw [cf_addL] at hdiff
    exact pad_eq_pz.1 hdiff
  refine ⟨?_, ?_⟩
  · rw [hk.f, hca, prodP_app, mulL_cf hG]
  · refine Nat.le_antisymm hl (Nat.not_lt.1 fun hlt => ?_)
    have h1 := hk.dc O.length (by omega)
    rw [hca] at h1
    exact prodP_top O (fun X hX => h0 X (List.mem_append_right _ hX)) h1
end Go.Proofs.YtpkpfebhdgbgbaaGreatDoor
namespace Go.Proofs.YtpkpfebhdgbgbaaGreatDoor
set_option linter.unusedSimpArgs false

def wrStep (V D f : List UInt8) (n : Nat) (l : List (UInt8 × Nat)) : Option (List (UInt8 × Nat)) :=
  if ev f (inv (place n)) ≠ 0 then some l
  else if ev D (inv (place n)) = 0 then none
  else some (l ++ [(gm (place n) (gm (ev V (inv (place n))) (inv (ev D (inv (place n))))), n)])
/-- What is wrong at the first places, and where; none where the slope is 0. -/
def wrL (V D f : List UInt8) : Nat → Option (List (UInt8 × Nat))
  | 0 => some []
  | n + 1 => (wrL V D f n).bind (wrStep V D f n)
theorem wrL_succ (V D f : List UInt8) (n : Nat) : wrL V D f (n + 1) = (wrL V D f n).bind (wrStep V D f n) := rfl
theorem wrL_none {V D f : List UInt8} {n : Nat} (h : wrL V D f n = none) (k : Nat) : wrL V D f (n + k) = none := by
  induction k with
  | zero => exact h
  | succ k ih => rw [← Nat.add_assoc, wrL_succ, ih]; rfl
theorem wrL_lt {V D f : List UInt8} (n : Nat) : ∀ l, wrL V D f n = some l → (∀ p ∈ l, p.2 < n) ∧ l.length ≤ n := by
  induction n with
  | zero => intro l h; cases h; exact ⟨fun p hp => by simp at hp, Nat.le_refl _⟩
  | succ n ih =>
    intro l h
    rw [wrL_succ] at h
    cases h0 : wrL V D f n with
    | none => rw [h0] at h; cases h
    | some m =>
      rw [h0] at h
      obtain ⟨i1, i2⟩ := ih m h0
      change wrStep V D f n m = some l at h
      unfold wrStep at h
      split at h
      · cases h; exact ⟨fun p hp => Nat.lt_succ_of_lt (i1 p hp), Nat.le_succ_of_le i2⟩
      · split at h
        · cases h
        · cases h
          refine ⟨fun p hp => ?_, by rw [List.length_append]; show m.length + 1 ≤ n + 1; omega⟩
          rcases List.mem_append.1 hp with hp | hp
          · exact Nat.lt_succ_of_lt (i1 p hp)
          · rw [List.mem_singleton] at hp; rw [hp]; exact Nat.lt_succ_self n

/-- Places below n that are among J, with what is wrong there. -/
def outJ (E : Nat → UInt8) (J : List Nat) (n : Nat) : List (UInt8 × Nat) := ((List.range n).filter (fun i => decide (i ∈ J))).map fun i => (E i, i)
theorem place_ne (i : Nat) : place i ≠ 0 := ex_ne _
theorem mem_place {J : List Nat} (hJ : ∀ j ∈ J, j < 255) {n : Nat} (hn : n < 255) : place n ∈ J.map place ↔ n ∈ J := by
  constructor
  · intro h
    obtain ⟨j, hj, e⟩ := List.mem_map.1 h
    rwa [← place_inj (hJ j hj) hn e]
  · exact fun h => List.mem_map_of_mem h
theorem places_nodup {J : List Nat} (hJ : ∀ j ∈ J, j < 255) (hnd : J.Nodup) : (J.map place).Nodup := by
  refine List.pairwise_map.2 (hnd.imp_of_mem fun {a b} ha hb hne h1 => hne ?_)
  exact place_inj (hJ a ha) (hJ b hb) h1
theorem wr_found {J : List Nat} {E : Nat → UInt8} {V D f : List UInt8} (hJ : ∀ j ∈ J, j < 255) (hnd : J.Nodup) (hf : cf f = cf (prodP (J.map place)))
    (hV : cf V = numE (J.map fun j => (place j, E j))) (hD : cf D = der (cf f)) (n : Nat) (hn : n ≤ 255) : wrL V D f n = some (outJ E J n) := by
  have hfst : (J.map fun j => (place j, E j)).map Prod.fst = J.map place := by rw [List.map_map]; rfl
  have hfst2 : ((J.map place).map fun X => (X, X)).map Prod.fst = J.map place := by rw [List.map_map, List.map_map]; rfl
  have hpn := places_nodup hJ hnd
  induction n with
  | zero => rfl
  | succ n ih =>
    have hn5 : n < 255 := by omega
    rw [wrL_succ, ih (by omega)]
    show wrStep V D f n (outJ E J n) = _
    have hy := gm_inv (place_ne n)
    have hout : outJ E J (n + 1) = if n ∈ J then outJ E J n ++ [(E n, n)] else outJ E J n := by
      unfold outJ
      rw [List.range_succ, List.filter_append, List.map_append]
      by_cases h : n ∈ J
      · rw [if_pos h]; simp [h]
      · rw [if_neg h]; simp [h]
    rw [hout]
    unfold wrStep
    by_cases h : n ∈ J
    · have hm : place n ∈ J.map place := List.mem_map_of_mem h
      rw [if_pos h, if_neg (fun hne => hne (by rw [ev_cf _ hf]; exact ev_prodP_in hm hy))]
      have hv : ev V (inv (place n)) = gm (E n) (restP (place n) (inv (place n)) (J.map place)) := by
        rw [ev_evn, ← evn_more (m := max V.length J.length) _ (Nat.le_max_left _ _) (fun i hi => cf_ge hi), hV, ← hfst]
        exact num_at hy _ _ _ (by rw [List.length_map]; exact Nat.le_max_right _ _) (by rw [hfst]; exact hpn) (List.mem_map_of_mem (f := fun j => (place j, E j)) h)
      have hd : ev D (inv (place n)) = gm (place n) (restP (place n) (inv (place n)) (J.map place)) := by
        rw [ev_evn, ← evn_more (m := max D.length J.length) _ (Nat.le_max_left _ _) (fun i hi => cf_ge hi), hD, hf, der_prodP]
        have h9 := num_at hy ((J.map place).map fun X => (X, X)) (max D.length J.length) (place n) (by rw [List.length_map, List.length_map]; exact Nat.le_max_right _ _) (by rw [hfst2]; exact hpn) (List.mem_map_of_mem (f := fun X => (X, X)) hm)
        rw [hfst2] at h9
        exact h9
      have hR := rest_ne hy (J.map place)
      rw [hv, hd, if_neg (fun h0 => by rcases gm_eq_zero.1 h0 with h1 | h1; exact place_ne n h1; exact hR h1), forney (place_ne n) hR]
    · rw [if_neg h, if_pos]
      rw [ev_cf _ hf, ev_prodP _ _ _ (fun hm => h ((mem_place hJ hn5).1 hm))]
      exact rest_ne hy _

theorem countP_or {α : Type} (p q : α → Bool) (l : List α) (h : ∀ x ∈ l, p x = true → q x = false) : l.countP (fun x => p x || q x) = l.countP p + l.countP q := by
  induction l with
  | nil => rfl
  | cons a l ih =>
    have i := ih (fun x hx => h x (List.mem_cons_of_mem _ hx))
    have ha := h a List.mem_cons_self
    rw [List.countP_cons, List.countP_cons, List.countP_cons, i]
    cases hp : p a <;> cases hq : q a <;> simp_all <;> omega
theorem count_range (n j : Nat) (h : j < n) : (List.range n).countP (fun i => decide (i = j)) = 1 := by
  induction n with
  | zero => omega
  | succ n ih =>
    rw [List.range_succ, List.countP_append]
    by_cases e : j = n
    · subst e
      have : (List.range j).countP (fun i => decide (i = j)) = 0 := List.countP_eq_zero.2 fun a ha => by rw [List.mem_range] at ha; simp; omega
      rw [this]; simp
    · rw [ih (by omega)]
      have : ¬ n = j := fun h => e h.symm
      simp [this]
theorem outJ_length (E : Nat → UInt8) (J : List Nat) (hJ : ∀ j ∈ J, j < 255) (hnd : J.Nodup) : (outJ E J 255).length = J.length := by
  unfold outJ
  rw [List.length_map, ← List.countP_eq_length_filter]
  induction J with
  | nil => exact List.countP_eq_zero.2 fun a _ => by simp
  | cons j J ih =>
    obtain ⟨h1, h2⟩ := List.nodup_cons.1 hnd
    have e : (fun i => decide (i ∈ j :: J)) = fun i => (decide (i = j) || decide (i ∈ J)) := by
      funext i; rw [Bool.eq_iff_iff]; simp
    rw [e, countP_or _ _ _ (fun x _ hx => by rw [decide_eq_true_eq] at hx; rw [hx]; exact decide_eq_false h1), count_range 255 j (hJ j List.mem_cons_self), ih (fun i hi => hJ i (List.mem_cons_of_mem _ hi)) h2, List.length_cons]
    omega
/-- A text with what is wrong taken off. -/
def appL (t : List UInt8) (l : List (UInt8 × Nat)) : List UInt8 := l.foldl (fun t p => t.set p.2 (cf t p.2 ^^^ p.1)) t
theorem appL_snoc (t : List UInt8) (l : List (UInt8 × Nat)) (p : UInt8 × Nat) : appL t (l ++ [p]) = (appL t l).set p.2 (cf (appL t l) p.2 ^^^ p.1) := by unfold appL; rw [List.foldl_append]; rfl
theorem appL_length (t : List UInt8) (l : List (UInt8 × Nat)) : (appL t l).length = t.length := by
  induction l generalizing t with
  | nil => rfl
  | cons p l ih => show (appL (t.set p.2 (cf t p.2 ^^^ p.1)) l).length = _; rw [ih, List.length_set]
theorem cf_set0 {l : List UInt8} {i : Nat} {x : UInt8} (hi : i < l.length) (j : Nat) : cf (l.set i x) j = if j = i then x else cf l j := by
  unfold cf
  rw [List.getD_eq_getElem?_getD, List.getD_eq_getElem?_getD, List.getElem?_set]
  by_cases h : j = i
  · subst h; rw [if_pos rfl, if_pos rfl, if_pos hi]; rfl
  · rw [if_neg h, if_neg (fun e => h e.symm)]
theorem appL_outJ (t : List UInt8) (E : Nat → UInt8) (J : List Nat) (n : Nat) (hn : n ≤ t.length) (j : Nat) : cf (appL t (outJ E J n)) j = cf t j ^^^ (if j < n ∧ j ∈ J then E j else 0) := by
  induction n with
  | zero => rw [if_neg (by omega), xzero]; rfl
  | succ n ih =>
    have i := ih (by omega)
    by_cases h : n ∈ J
    · have hout : outJ E J (n + 1) = outJ E J n ++ [(E n, n)] := by unfold outJ; rw [List.range_succ, List.filter_append, List.map_append]; simp [h]
      rw [hout, appL_snoc, cf_set0 (by rw [appL_length]; exact hn)]
      by_cases hj : j = n
      · subst hj
        rw [if_pos rfl, if_pos ⟨Nat.lt_succ_self _, h⟩, i, if_neg (by omega), xzero]
      · rw [if_neg hj, i]
        by_cases hjn : j < n ∧ j ∈ J
        · rw [if_pos hjn, if_pos ⟨by omega, hjn.2⟩]
        · rw [if_neg hjn, if_neg (fun h2 => hjn ⟨by omega, h2.2⟩)]
    · have hout : outJ E J (n + 1) = outJ E J n := by unfold outJ; rw [List.range_succ, List.filter_append, List.map_append]; simp [h]
      rw [hout, i]
      by_cases hjn : j < n ∧ j ∈ J
      · rw [if_pos hjn, if_pos ⟨by omega, hjn.2⟩]
      · rw [if_neg hjn, if_neg (fun h2 => hjn ⟨by
          have : j ≠ n := fun e => h (e ▸ h2.2)
          omega, h2.2⟩)]
/-- Any values are those of a series with as many places. -/
theorem vander (Xs : List UInt8) : Xs.Nodup → ∀ S : Nat → UInt8, ∃ w : List (UInt8 × UInt8), w.map Prod.fst = Xs ∧ ∀ m, m < Xs.length → serE w m = S m := by
  induction Xs with
  | nil => intro _ S; exact ⟨[], rfl, fun m hm => by simp at hm⟩
  | cons X Xs ih =>
    intro hnd S
    obtain ⟨h1, h2⟩ := List.nodup_cons.1 hnd
    obtain ⟨w, hw, hs⟩ := ih h2 (fun m => S (m + 1) ^^^ gm X (S m))
    -- each is divided by the difference of the places
    obtain ⟨w2, hw2, hs2⟩ : ∃ w2 : List (UInt8 × UInt8), w2.map Prod.fst = Xs ∧ ∀ m, serE w2 (m + 1) ^^^ gm X (serE w2 m) = serE w m := by
      clear hs ih h2 hnd
      induction w generalizing Xs with
      | nil => subst hw; exact ⟨[], rfl, fun m => by show (0 : UInt8) ^^^ gm X 0 = 0; rw [gm_zero, xzero]⟩
      | cons p w ihw =>
        obtain ⟨Y, e⟩ := p
        cases Xs with
        | nil => cases hw
        | cons Z Xs =>
          have hYZ : Y = Z ∧ w.map Prod.fst = Xs := by simpa using hw
          obtain ⟨rfl, hw'⟩ := hYZ
          have hne : X ≠ Y := fun e => h1 (e ▸ List.mem_cons_self)
          obtain ⟨w2, hw2, hs2⟩ := ihw Xs (fun hm => h1 (List.mem_cons_of_mem _ hm)) hw'
          have hd : Y ^^^ X ≠ 0 := fun e => hne (xeq_zero.1 e).symm
          refine ⟨(Y, gm e (inv (Y ^^^ X))) :: w2, by rw [List.map_cons, hw2], fun m => ?_⟩
          show (gm (gm e (inv (Y ^^^ X))) (xpw Y (m + 1)) ^^^ serE w2 (m + 1)) ^^^ gm X (gm (gm e (inv (Y ^^^ X))) (xpw Y m) ^^^ serE w2 m) = gm e (xpw Y m) ^^^ serE w m
          rw [← hs2 m, gm_xor]
          have hk : gm (gm e (inv (Y ^^^ X))) (xpw Y (m + 1)) ^^^ gm X (gm (gm e (inv (Y ^^^ X))) (xpw Y m)) = gm e (xpw Y m) := by
            show gm (gm e (inv (Y ^^^ X))) (gm (xpw Y m) Y) ^^^ _ = _
            have e1 : gm (gm e (inv (Y ^^^ X))) (gm (xpw Y m) Y) = gm (gm (gm e (xpw Y m)) (inv (Y ^^^ X))) Y := by simp only [gm_assoc, gm_comm, gm_left_comm]
            have e2 : gm X (gm (gm e (inv (Y ^^^ X))) (xpw Y m)) = gm (gm (gm e (xpw Y m)) (inv (Y ^^^ X))) X := by simp only [gm_assoc, gm_comm, gm_left_comm]
            rw [e1, e2, ← gm_xor, gm_assoc, gm_comm (inv (Y ^^^ X)), gm_inv hd, gm_one]
          rw [← hk]
          simp only [xassoc, xcomm, xleft]
    obtain ⟨e, he⟩ : ∃ e, e = S 0 ^^^ serE w2 0 := ⟨_, rfl⟩
    refine ⟨(X, e) :: w2, by rw [List.map_cons, hw2], fun m => ?_⟩
    show m < Xs.length + 1 → gm e (xpw X m) ^^^ serE w2 m = S m
    induction m with
    | zero => intro _; show gm e 1 ^^^ _ = _; rw [gm_one, he, xassoc, xself, xzero]
    | succ m ihm =>
      intro hm
      have h3 := ihm (by omega)
      have h4 := hs m (by omega)
      rw [← hs2 m] at h4
      have h5 : serE w2 (m + 1) = (S (m + 1) ^^^ gm X (S m)) ^^^ gm X (serE w2 m) := by rw [← h4, xassoc, xself, xzero]
      rw [h5, ← h3, gm_xor]
      show gm e (gm (xpw X m) X) ^^^ _ = _
      have e1 : gm e (gm (xpw X m) X) = gm X (gm e (xpw X m)) := by simp only [gm_assoc, gm_comm, gm_left_comm]
      rw [e1]
      generalize gm X (gm e (xpw X m)) = a
      generalize gm X (serE w2 m) = b
      generalize S (m + 1) = c
      have : a ^^^ ((c ^^^ (a ^^^ b)) ^^^ b) = c := by
        rw [xassoc c, xassoc a, xself, xzero, xcomm c, xcancel]
      exact this
end Go.Proofs.YtpkpfebhdgbgbaaGreatDoor
