/- Plain: the locator's loop finds what is wrong, if that is not too much. No condition. -/
import Derived.Test.YtahjpjhkbohpnaaDoorMe4
namespace Go.Proofs.YtahjpjhkbohpnaaDoor

theorem step_local {p : Nat} {S S' : Nat → UInt8} {r : Nat} (b : Bm) (h : ∀ j, j ≤ r → S j = S' j) : stepB p S r b = stepB p S' r b := by
  have hg : gapB S r b = gapB S' r b := mulL_local h
  unfold stepB
  rw [hg]
theorem run_local {p m : Nat} {S S' : Nat → UInt8} (h : ∀ j, j < m → S j = S' j) (n : Nat) : ∀ (r : Nat) (b : Bm), r + n ≤ m → runB p S r n b = runB p S' r n b := by
  induction n with
  | zero => intro r b _; rfl
  | succ n ih =>
    intro r b hr
    show runB p S (r + 1) n (stepB p S r b) = runB p S' (r + 1) n (stepB p S' r b)
    rw [step_local b (fun j hj => h j (by omega)), ih (r + 1) _ (by omega)]
theorem prodP_app (K O : List UInt8) : cf (prodP (K ++ O)) = mulL (prodP K) (cf (prodP O)) := by
  induction K with
  | nil => show cf (prodP O) = mulL [1] _; rw [mulL_single, scl_one]
  | cons X K ih =>
    rw [List.cons_append, cf_prodP, ih]
    exact (mulL_prod (cf_prodL _ _) _).symm
theorem prodP_top (l : List UInt8) (h : ∀ X ∈ l, X ≠ 0) : cf (prodP l) l.length ≠ 0 := by
  induction l with
  | nil => exact (by decide : (1 : UInt8) ≠ 0)
  | cons X l ih =>
    rw [cf_prodP]
    show gm 1 (cf (prodP l) (l.length + 1)) ^^^ (gm X (cf (prodP l) l.length) ^^^ sh pz l.length) ≠ 0
    rw [deg_prodP l _ (Nat.lt_succ_self _), gm_zero, zerox, sh_pz]
    show gm X (cf (prodP l) l.length) ^^^ 0 ≠ 0
    rw [xzero]
    intro h0
    rcases gm_eq_zero.1 h0 with h1 | h1
    · exact h X List.mem_cons_self h1
    · exact ih (fun Z hZ => h Z (List.mem_cons_of_mem _ hZ)) h1
theorem ev_at0 (l : List UInt8) : ev l 0 = cf l 0 := by
  cases l with
  | nil => rfl
  | cons c l => show c ^^^ gm 0 _ = c; rw [zero_gm, xzero]
theorem inv_inj {a b : UInt8} (ha : a ≠ 0) (hb : b ≠ 0) (h : inv a = inv b) : a = b := by
  have h1 := gm_inv ha
  have h2 := gm_inv hb
  rw [h] at h1
  exact gm_cancel (a := inv b) (inv_ne hb) (by rw [gm_comm, h1, gm_comm, h2])
/-- The loop finds the product over all that is wrong or lost. -/
theorem bm_found {K O : List UInt8} {w : List (UInt8 × UInt8)} {G : List UInt8} {S : Nat → UInt8} (hw : w.map Prod.fst = K ++ O) (hnd : (K ++ O).Nodup) (h0 : ∀ X ∈ K ++ O, X ≠ 0)
    (he : ∀ X e, (X, e) ∈ w → X ∈ O → e ≠ 0) (hv : K.length + 2 * O.length ≤ 64) (hG : cf G = cf (prodP K)) (hS : ∀ j, j < 64 → S j = serE w j) :
    cf (runB K.length S K.length (64 - K.length) ⟨G, G, K.length⟩).found = cf (prodP (K ++ O)) ∧ (runB K.length S K.length (64 - K.length) ⟨G, G, K.length⟩).long = K.length + O.length := by
  rw [run_local hS _ _ _ (by omega)]
  obtain ⟨T, hT⟩ : ∃ T, T = mulL G (serE w) := ⟨_, rfl⟩
  obtain ⟨c, d, hk⟩ := kept_run hT (64 - K.length) (kept_start K.length G T)
  rw [show K.length + (64 - K.length) = 64 by omega] at hk
  have hwl : w.length = K.length + O.length := by have := congrArg List.length hw; simpa using this
  have hnum : mulL (prodP O) T = numE w := by
    rw [hT, mulL_cf hG, ← prod_ser w, hw, mulL_swap]
    exact (mulL_prod (prodP_app K O) _).symm
  have ha1 := prodP_zero O
  have had := deg_prodP O
  have haz : ∀ j, K.length + O.length ≤ j → mulL (prodP O) T j = 0 := fun j hj => by rw [hnum]; exact deg_numE w j (by omega)
  have hl := run_long hT ha1 had haz (64 - K.length) (kept_start K.length G T) (Nat.le_add_right _ _)
  obtain ⟨b, hb⟩ : ∃ b, b = runB K.length (serE w) K.length (64 - K.length) ⟨G, G, K.length⟩ := ⟨_, rfl⟩
  rw [← hb] at hk hl ⊢
  have hroots : ∀ X ∈ O, ev c (inv X) = 0 := by
    intro X hX
    have hX0 := h0 X (List.mem_append_right _ hX)
    have hy := gm_inv hX0
    have hXw : X ∈ w.map Prod.fst := by rw [hw]; exact List.mem_append_right _ hX
    obtain ⟨⟨X', e⟩, hm, rfl⟩ := List.mem_map.1 hXw
    refine bm_zero hk had haz hl hv (ev_prodP_in hX hy) ?_
    rw [hnum, num_at hy w (K.length + O.length) e (by omega) (by rw [hw]; exact hnd) hm]
    intro h1
    rcases gm_eq_zero.1 h1 with h2 | h2
    · exact he _ e hm hX h2
    · exact rest_ne hy _ h2
  have hca : cf c = cf (prodP O) := by
    have hdiff : cf (addL c (prodP O)) = pz := by
      refine few_roots (0 :: O.map inv) _ ?_ (fun j hj => ?_) (fun x hx => ?_)
      · refine List.nodup_cons.2 ⟨fun hm => ?_, ?_⟩
        · obtain ⟨X, hX, h1⟩ := List.mem_map.1 hm
          exact inv_ne (h0 X (List.mem_append_right _ hX)) h1
        · have hO := (List.nodup_append.1 hnd).2.1
          refine List.pairwise_map.2 (hO.imp_of_mem fun {a b} ha hb hne h1 => hne ?_)
          exact inv_inj (h0 a (List.mem_append_right _ ha)) (h0 b (List.mem_append_right _ hb)) h1
      · rw [List.length_cons, List.length_map] at hj
        rw [cf_addL]
        show cf c j ^^^ cf (prodP O) j = 0
        rw [hk.dc j (by omega), had j (by omega), xzero]
      · rcases List.mem_cons.1 hx with rfl | hx
        · rw [ev_at0, cf_addL]
          show cf c 0 ^^^ cf (prodP O) 0 = 0
          rw [hk.one, ha1, xself]
        · obtain ⟨X, hX, rfl⟩ := List.mem_map.1 hx
          rw [ev_add _ (cf_addL c (prodP O)), hroots X hX, ev_prodP_in hX (gm_inv (h0 X (List.mem_append_right _ hX))), xzero]
    rw [cf_addL] at hdiff
    exact pad_eq_pz.1 hdiff
  refine ⟨?_, ?_⟩
  · rw [hk.f, hca, prodP_app, mulL_cf hG]
  · refine Nat.le_antisymm hl (Nat.not_lt.1 fun hlt => ?_)
    have h1 := hk.dc O.length (by omega)
    rw [hca] at h1
    exact prodP_top O (fun X hX => h0 X (List.mem_append_right _ hX)) h1
end Go.Proofs.YtahjpjhkbohpnaaDoor
