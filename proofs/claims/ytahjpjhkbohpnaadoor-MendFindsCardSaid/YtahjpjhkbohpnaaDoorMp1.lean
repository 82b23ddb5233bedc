/- Plain: what is wrong, place by place, and the text put right. No condition. -/
import Derived.Test.YtahjpjhkbohpnaaDoorMe5
namespace Go.Proofs.YtahjpjhkbohpnaaDoor
set_option linter.unusedSimpArgs false

def wrStep (V D f : List UInt8) (n : Nat) (l : List (UInt8 × Nat)) : Option (List (UInt8 × Nat)) :=
  if ev f (inv (place n)) ≠ 0 then some l
  else if ev D (inv (place n)) = 0 then none
  else some (l ++ [(gm (place n) (gm (ev V (inv (place n))) (inv (ev D (inv (place n))))), n)])
/-- What is wrong at the first places, and where; none where the slope is 0. -/
def wrL (V D f : List UInt8) : Nat → Option (List (UInt8 × Nat))
  | 0 => some []
  | n + 1 => (wrL V D f n).bind (wrStep V D f n)
theorem wrL_succ (V D f : List UInt8) (n : Nat) : wrL V D f (n + 1) = (wrL V D f n).bind (wrStep V D f n) := rfl
theorem wrL_none {V D f : List UInt8} {n : Nat} (h : wrL V D f n = none) (k : Nat) : wrL V D f (n + k) = none := by
  induction k with
  | zero => exact h
  | succ k ih => rw [← Nat.add_assoc, wrL_succ, ih]; rfl
theorem wrL_lt {V D f : List UInt8} (n : Nat) : ∀ l, wrL V D f n = some l → (∀ p ∈ l, p.2 < n) ∧ l.length ≤ n := by
  induction n with
  | zero => intro l h; cases h; exact ⟨fun p hp => by simp at hp, Nat.le_refl _⟩
  | succ n ih =>
    intro l h
    rw [wrL_succ] at h
    cases h0 : wrL V D f n with
    | none => rw [h0] at h; cases h
    | some m =>
      rw [h0] at h
      obtain ⟨i1, i2⟩ := ih m h0
      change wrStep V D f n m = some l at h
      unfold wrStep at h
      split at h
      · cases h; exact ⟨fun p hp => Nat.lt_succ_of_lt (i1 p hp), Nat.le_succ_of_le i2⟩
      · split at h
        · cases h
        · cases h
          refine ⟨fun p hp => ?_, by rw [List.length_append]; show m.length + 1 ≤ n + 1; omega⟩
          rcases List.mem_append.1 hp with hp | hp
          · exact Nat.lt_succ_of_lt (i1 p hp)
          · rw [List.mem_singleton] at hp; rw [hp]; exact Nat.lt_succ_self n

/-- Places below n that are among J, with what is wrong there. -/
def outJ (E : Nat → UInt8) (J : List Nat) (n : Nat) : List (UInt8 × Nat) := ((List.range n).filter (fun i => decide (i ∈ J))).map fun i => (E i, i)
theorem place_ne (i : Nat) : place i ≠ 0 := ex_ne _
theorem mem_place {J : List Nat} (hJ : ∀ j ∈ J, j < 255) {n : Nat} (hn : n < 255) : place n ∈ J.map place ↔ n ∈ J := by
  constructor
  · intro h
    obtain ⟨j, hj, e⟩ := List.mem_map.1 h
    rwa [← place_inj (hJ j hj) hn e]
  · exact fun h => List.mem_map_of_mem h
theorem places_nodup {J : List Nat} (hJ : ∀ j ∈ J, j < 255) (hnd : J.Nodup) : (J.map place).Nodup := by
  refine List.pairwise_map.2 (hnd.imp_of_mem fun {a b} ha hb hne h1 => hne ?_)
  exact place_inj (hJ a ha) (hJ b hb) h1
theorem wr_found {J : List Nat} {E : Nat → UInt8} {V D f : List UInt8} (hJ : ∀ j ∈ J, j < 255) (hnd : J.Nodup) (hf : cf f = cf (prodP (J.map place)))
    (hV : cf V = numE (J.map fun j => (place j, E j))) (hD : cf D = der (cf f)) (n : Nat) (hn : n ≤ 255) : wrL V D f n = some (outJ E J n) := by
  have hfst : (J.map fun j => (place j, E j)).map Prod.fst = J.map place := by rw [List.map_map]; rfl
  have hfst2 : ((J.map place).map fun X => (X, X)).map Prod.fst = J.map place := by rw [List.map_map, List.map_map]; rfl
  have hpn := places_nodup hJ hnd
  induction n with
  | zero => rfl
  | succ n ih =>
    have hn5 : n < 255 := by omega
    rw [wrL_succ, ih (by omega)]
    show wrStep V D f n (outJ E J n) = _
    have hy := gm_inv (place_ne n)
    have hout : outJ E J (n + 1) = if n ∈ J then outJ E J n ++ [(E n, n)] else outJ E J n := by
      unfold outJ
      rw [List.range_succ, List.filter_append, List.map_append]
      by_cases h : n ∈ J
      · rw [if_pos h]; simp [h]
      · rw [if_neg h]; simp [h]
    rw [hout]
    unfold wrStep
    by_cases h : n ∈ J
    · have hm : place n ∈ J.map place := List.mem_map_of_mem h
      rw [if_pos h, if_neg (fun hne => hne (by rw [ev_cf _ hf]; exact ev_prodP_in hm hy))]
      have hv : ev V (inv (place n)) = gm (E n) (restP (place n) (inv (place n)) (J.map place)) := by
        rw [ev_evn, ← evn_more (m := max V.length J.length) _ (Nat.le_max_left _ _) (fun i hi => cf_ge hi), hV, ← hfst]
        exact num_at hy _ _ _ (by rw [List.length_map]; exact Nat.le_max_right _ _) (by rw [hfst]; exact hpn) (List.mem_map_of_mem (f := fun j => (place j, E j)) h)
      have hd : ev D (inv (place n)) = gm (place n) (restP (place n) (inv (place n)) (J.map place)) := by
        rw [ev_evn, ← evn_more (m := max D.length J.length) _ (Nat.le_max_left _ _) (fun i hi => cf_ge hi), hD, hf, der_prodP]
        have h9 := num_at hy ((J.map place).map fun X => (X, X)) (max D.length J.length) (place n) (by rw [List.length_map, List.length_map]; exact Nat.le_max_right _ _) (by rw [hfst2]; exact hpn) (List.mem_map_of_mem (f := fun X => (X, X)) hm)
        rw [hfst2] at h9
        exact h9
      have hR := rest_ne hy (J.map place)
      rw [hv, hd, if_neg (fun h0 => by rcases gm_eq_zero.1 h0 with h1 | h1; exact place_ne n h1; exact hR h1), forney (place_ne n) hR]
    · rw [if_neg h, if_pos]
      rw [ev_cf _ hf, ev_prodP _ _ _ (fun hm => h ((mem_place hJ hn5).1 hm))]
      exact rest_ne hy _

theorem countP_or {α : Type} (p q : α → Bool) (l : List α) (h : ∀ x ∈ l, p x = true → q x = false) : l.countP (fun x => p x || q x) = l.countP p + l.countP q := by
  induction l with
  | nil => rfl
  | cons a l ih =>
    have i := ih (fun x hx => h x (List.mem_cons_of_mem _ hx))
    have ha := h a List.mem_cons_self
    rw [List.countP_cons, List.countP_cons, List.countP_cons, i]
    cases hp : p a <;> cases hq : q a <;> simp_all <;> omega
theorem count_range (n j : Nat) (h : j < n) : (List.range n).countP (fun i => decide (i = j)) = 1 := by
  induction n with
  | zero => omega
  | succ n ih =>
    rw [List.range_succ, List.countP_append]
    by_cases e : j = n
    · subst e
      have : (List.range j).countP (fun i => decide (i = j)) = 0 := List.countP_eq_zero.2 fun a ha => by rw [List.mem_range] at ha; simp; omega
      rw [this]; simp
    · rw [ih (by omega)]
      have : ¬ n = j := fun h => e h.symm
      simp [this]
theorem outJ_length (E : Nat → UInt8) (J : List Nat) (hJ : ∀ j ∈ J, j < 255) (hnd : J.Nodup) : (outJ E J 255).length = J.length := by
  unfold outJ
  rw [List.length_map, ← List.countP_eq_length_filter]
  induction J with
  | nil => exact List.countP_eq_zero.2 fun a _ => by simp
  | cons j J ih =>
    obtain ⟨h1, h2⟩ := List.nodup_cons.1 hnd
    have e : (fun i => decide (i ∈ j :: J)) = fun i => (decide (i = j) || decide (i ∈ J)) := by
      funext i; rw [Bool.eq_iff_iff]; simp
    rw [e, countP_or _ _ _ (fun x _ hx => by rw [decide_eq_true_eq] at hx; rw [hx]; exact decide_eq_false h1), count_range 255 j (hJ j List.mem_cons_self), ih (fun i hi => hJ i (List.mem_cons_of_mem _ hi)) h2, List.length_cons]
    omega
/-- A text with what is wrong taken off. -/
def appL (t : List UInt8) (l : List (UInt8 × Nat)) : List UInt8 := l.foldl (fun t p => t.set p.2 (cf t p.2 ^^^ p.1)) t
theorem appL_snoc (t : List UInt8) (l : List (UInt8 × Nat)) (p : UInt8 × Nat) : appL t (l ++ [p]) = (appL t l).set p.2 (cf (appL t l) p.2 ^^^ p.1) := by unfold appL; rw [List.foldl_append]; rfl
theorem appL_length (t : List UInt8) (l : List (UInt8 × Nat)) : (appL t l).length = t.length := by
  induction l generalizing t with
  | nil => rfl
  | cons p l ih => show (appL (t.set p.2 (cf t p.2 ^^^ p.1)) l).length = _; rw [ih, List.length_set]
theorem cf_set0 {l : List UInt8} {i : Nat} {x : UInt8} (hi : i < l.length) (j : Nat) : cf (l.set i x) j = if j = i then x else cf l j := by
  unfold cf
  rw [List.getD_eq_getElem?_getD, List.getD_eq_getElem?_getD, List.getElem?_set]
  by_cases h : j = i
  · subst h; rw [if_pos rfl, if_pos rfl, if_pos hi]; rfl
  · rw [if_neg h, if_neg (fun e => h e.symm)]
theorem appL_outJ (t : List UInt8) (E : Nat → UInt8) (J : List Nat) (n : Nat) (hn : n ≤ t.length) (j : Nat) : cf (appL t (outJ E J n)) j = cf t j ^^^ (if j < n ∧ j ∈ J then E j else 0) := by
  induction n with
  | zero => rw [if_neg (by omega), xzero]; rfl
  | succ n ih =>
    have i := ih (by omega)
    by_cases h : n ∈ J
    · have hout : outJ E J (n + 1) = outJ E J n ++ [(E n, n)] := by unfold outJ; rw [List.range_succ, List.filter_append, List.map_append]; simp [h]
      rw [hout, appL_snoc, cf_set0 (by rw [appL_length]; exact hn)]
      by_cases hj : j = n
      · subst hj
        rw [if_pos rfl, if_pos ⟨Nat.lt_succ_self _, h⟩, i, if_neg (by omega), xzero]
      · rw [if_neg hj, i]
        by_cases hjn : j < n ∧ j ∈ J
        · rw [if_pos hjn, if_pos ⟨by omega, hjn.2⟩]
        · rw [if_neg hjn, if_neg (fun h2 => hjn ⟨by omega, h2.2⟩)]
    · have hout : outJ E J (n + 1) = outJ E J n := by unfold outJ; rw [List.range_succ, List.filter_append, List.map_append]; simp [h]
      rw [hout, i]
      by_cases hjn : j < n ∧ j ∈ J
      · rw [if_pos hjn, if_pos ⟨by omega, hjn.2⟩]
      · rw [if_neg hjn, if_neg (fun h2 => hjn ⟨by
          have : j ≠ n := fun e => h (e ▸ h2.2)
          omega, h2.2⟩)]
/-- Any values are those of a series with as many places. -/
theorem vander (Xs : List UInt8) : Xs.Nodup → ∀ S : Nat → UInt8, ∃ w : List (UInt8 × UInt8), w.map Prod.fst = Xs ∧ ∀ m, m < Xs.length → serE w m = S m := by
  induction Xs with
  | nil => intro _ S; exact ⟨[], rfl, fun m hm => by simp at hm⟩
  | cons X Xs ih =>
    intro hnd S
    obtain ⟨h1, h2⟩ := List.nodup_cons.1 hnd
    obtain ⟨w, hw, hs⟩ := ih h2 (fun m => S (m + 1) ^^^ gm X (S m))
    -- each is divided by the difference of the places
    obtain ⟨w2, hw2, hs2⟩ : ∃ w2 : List (UInt8 × UInt8), w2.map Prod.fst = Xs ∧ ∀ m, serE w2 (m + 1) ^^^ gm X (serE w2 m) = serE w m := by
      clear hs ih h2 hnd
      induction w generalizing Xs with
      | nil => subst hw; exact ⟨[], rfl, fun m => by show (0 : UInt8) ^^^ gm X 0 = 0; rw [gm_zero, xzero]⟩
      | cons p w ihw =>
        obtain ⟨Y, e⟩ := p
        cases Xs with
        | nil => cases hw
        | cons Z Xs =>
          have hYZ : Y = Z ∧ w.map Prod.fst = Xs := by simpa using hw
          obtain ⟨rfl, hw'⟩ := hYZ
          have hne : X ≠ Y := fun e => h1 (e ▸ List.mem_cons_self)
          obtain ⟨w2, hw2, hs2⟩ := ihw Xs (fun hm => h1 (List.mem_cons_of_mem _ hm)) hw'
          have hd : Y ^^^ X ≠ 0 := fun e => hne (xeq_zero.1 e).symm
          refine ⟨(Y, gm e (inv (Y ^^^ X))) :: w2, by rw [List.map_cons, hw2], fun m => ?_⟩
          show (gm (gm e (inv (Y ^^^ X))) (xpw Y (m + 1)) ^^^ serE w2 (m + 1)) ^^^ gm X (gm (gm e (inv (Y ^^^ X))) (xpw Y m) ^^^ serE w2 m) = gm e (xpw Y m) ^^^ serE w m
          rw [← hs2 m, gm_xor]
          have hk : gm (gm e (inv (Y ^^^ X))) (xpw Y (m + 1)) ^^^ gm X (gm (gm e (inv (Y ^^^ X))) (xpw Y m)) = gm e (xpw Y m) := by
            show gm (gm e (inv (Y ^^^ X))) (gm (xpw Y m) Y) ^^^ _ = _
            have e1 : gm (gm e (inv (Y ^^^ X))) (gm (xpw Y m) Y) = gm (gm (gm e (xpw Y m)) (inv (Y ^^^ X))) Y := by simp only [gm_assoc, gm_comm, gm_left_comm]
            have e2 : gm X (gm (gm e (inv (Y ^^^ X))) (xpw Y m)) = gm (gm (gm e (xpw Y m)) (inv (Y ^^^ X))) X := by simp only [gm_assoc, gm_comm, gm_left_comm]
            rw [e1, e2, ← gm_xor, gm_assoc, gm_comm (inv (Y ^^^ X)), gm_inv hd, gm_one]
          rw [← hk]
          simp only [xassoc, xcomm, xleft]
    obtain ⟨e, he⟩ : ∃ e, e = S 0 ^^^ serE w2 0 := ⟨_, rfl⟩
    refine ⟨(X, e) :: w2, by rw [List.map_cons, hw2], fun m => ?_⟩
    show m < Xs.length + 1 → gm e (xpw X m) ^^^ serE w2 m = S m
    induction m with
    | zero => intro _; show gm e 1 ^^^ _ = _; rw [gm_one, he, xassoc, xself, xzero]
    | succ m ihm =>
      intro hm
      have h3 := ihm (by omega)
      have h4 := hs m (by omega)
      rw [← hs2 m] at h4
      have h5 : serE w2 (m + 1) = (S (m + 1) ^^^ gm X (S m)) ^^^ gm X (serE w2 m) := by rw [← h4, xassoc, xself, xzero]
      rw [h5, ← h3, gm_xor]
      show gm e (gm (xpw X m) X) ^^^ _ = _
      have e1 : gm e (gm (xpw X m) X) = gm X (gm e (xpw X m)) := by simp only [gm_assoc, gm_comm, gm_left_comm]
      rw [e1]
      generalize gm X (gm e (xpw X m)) = a
      generalize gm X (serE w2 m) = b
      generalize S (m + 1) = c
      have : a ^^^ ((c ^^^ (a ^^^ b)) ^^^ b) = c := by
        rw [xassoc c, xassoc a, xself, xzero, xcomm c, xcancel]
      exact this
end Go.Proofs.YtahjpjhkbohpnaaDoor
