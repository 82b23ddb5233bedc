/- Plain: what a text is mended to, and that a word which is near is found again. No condition. -/
import Derived.Test.YtpkpfebhdgbgbaaGreatDoorTMw4
import Derived.Test.YtpkpfebhdgbgbaaGreatDoorMp1
namespace Go.Proofs.YtpkpfebhdgbgbaaGreatDoor
set_option linter.unusedSimpArgs false
set_option linter.unusedVariables false

def bmE (t : ByteArray) (xs : List Int) : Bm := runB xs.length (cf (lb (synS t))) xs.length (64 - xs.length) ⟨lb (locS xs), lb (locS xs), xs.length⟩
def foundS (t : ByteArray) (xs : List Int) : ByteArray := trimS (bs (bmE t xs).found)
def valS (s found : ByteArray) : ByteArray := trimS ((mulS s found).extract 0 (min (mulS s found).size 64))
def wrongL (s found : ByteArray) : List (UInt8 × Nat) := (wrL (lb (valS s found)) (lb (slopeS found)) (lb found) 255).getD []
def outS (t : ByteArray) (xs : List Int) : ByteArray := bs (appL (lb t) (wrongL (synS t) (foundS t xs)))
def fitB (t : ByteArray) (xs : List Int) : Bool := decide (degS (foundS t xs) = ((bmE t xs).long : Int) ∧ (wrongL (synS t) (foundS t xs)).length = (bmE t xs).long)
/-- What mended answers. -/
def mendedS (t : ByteArray) (xs : List Int) : ByteArray × Bool :=
  if trimS (synS t) = ⟨#[]⟩ then (t, true) else if fitB t xs = true then (outS t xs, isB (outS t xs)) else (⟨#[]⟩, false)
/-- The first places where two texts are unlike. -/
def unlK (t w : ByteArray) (k : Nat) : List Int := ((List.range k).filter (fun i => decide (cf (lb w) i ≠ cf (lb t) i))).map (fun (i : Nat) => (i : Int))
def othK (t w : ByteArray) (xs : List Int) (k : Nat) : List Nat := (List.range k).filter (fun i => decide (cf (lb w) i ≠ cf (lb t) i ∧ (i : Int) ∉ xs))
def unl (t w : ByteArray) : List Int := unlK t w 255
def oth (t w : ByteArray) (xs : List Int) : List Nat := othK t w xs 255
/-- What mend.Word answers. -/
def ansW (t : ByteArray) (xs : List Int) : ByteArray × List Int × Int :=
  if t.size ≠ 255 ∨ ¬ GoodP xs then (⟨#[]⟩, [], 1) else if 64 < xs.length then (⟨#[]⟩, [], 19)
  else if (mendedS t xs).2 = false then (⟨#[]⟩, [], 19) else if (64 - xs.length) / 2 < (oth t (mendedS t xs).1 xs).length then (⟨#[]⟩, [], 19)
  else ((mendedS t xs).1, unl t (mendedS t xs).1, 0)

def lsum (F : Nat → UInt8) : List Nat → UInt8 | [] => 0 | j :: J => F j ^^^ lsum F J
theorem lsum_sx {J : List Nat} (F : Nat → UInt8) {n : Nat} (hJ : ∀ j ∈ J, j < n) (hnd : J.Nodup) : lsum F J = sx n (fun i => if i ∈ J then F i else 0) := by
  induction J with
  | nil => exact (sx_zero fun i _ => by simp).symm
  | cons j J ih =>
    obtain ⟨h1, h2⟩ := List.nodup_cons.1 hnd
    show F j ^^^ lsum F J = _
    rw [ih (fun i hi => hJ i (List.mem_cons_of_mem _ hi)) h2]
    have e : (fun i => if i ∈ j :: J then F i else 0) = fun i => (if i = j then F i else 0) ^^^ (if i ∈ J then F i else 0) := by
      funext i
      by_cases hi : i = j
      · subst hi; rw [if_pos List.mem_cons_self, if_pos rfl, if_neg h1, xzero]
      · by_cases hm : i ∈ J
        · rw [if_pos (List.mem_cons_of_mem _ hm), if_neg hi, if_pos hm, zerox]
        · rw [if_neg (by simp [hi, hm]), if_neg hi, if_neg hm, xzero]
    have e2 : sx n (fun i => if i = j then F i else 0) = F j := by
      rw [sx_single (j := j) (f := fun i => if i = j then F i else 0) (hJ j List.mem_cons_self) (fun i _ hne => if_neg hne)]; exact if_pos rfl
    rw [e, sx_xor, e2]
theorem serE_lsum (E : Nat → UInt8) (J : List Nat) (m : Nat) : serE (J.map fun j => (place j, E j)) m = lsum (fun j => gm (E j) (xpw (place j) m)) J := by
  induction J with
  | nil => rfl
  | cons j J ih => show gm (E j) (xpw (place j) m) ^^^ serE _ m = _; rw [ih]; rfl
/-- The syndromes are those of what is wrong. -/
theorem syn_wrong {t U : List UInt8} (ht : t.length = 255) (hU : IsW U) {J : List Nat} (hJ : ∀ j ∈ J, j < 255) (hnd : J.Nodup) (hc : ∀ i, i < 255 → i ∉ J → cf t i = cf U i) (m : Nat) (hm : m < 64) :
    cf (syn t) m = serE (J.map fun j => (place j, cf t j ^^^ cf U j)) m := by
  rw [serE_lsum (fun j => cf t j ^^^ cf U j), lsum_sx _ hJ hnd, cf_syn _ _ hm]
  have h0 := hU.2 m hm
  have e0 : hv t (ex m) = hv t (ex m) ^^^ hv U (ex m) := by rw [h0, xzero]
  rw [e0, syn_place t ht, syn_place U hU.1, ← sx_xor]
  refine sx_congr fun i hi => ?_
  rw [← xor_gm]
  by_cases h : i ∈ J
  · rw [if_pos h]
  · rw [if_neg h, hc i hi h, xself, zero_gm]
theorem dl_prod (l : List UInt8) (h : ∀ X ∈ l, X ≠ 0) : dl (prodP l) = l.length + 1 := dl_eq (prodP_top l h) (fun m hm => deg_prodP l m hm)
theorem xOf_eq (n : Int) : xOf n = place n.toNat := rfl
theorem degS_loc (xs : List Int) : degS (locS xs) = (xs.length : Int) := by
  unfold degS
  rw [dl_cf (cf_locS xs), dl_prod _ (fun X hX => by obtain ⟨n, _, rfl⟩ := List.mem_map.1 hX; exact ex_ne _), List.length_map]
  omega
theorem locS_trim (xs : List Int) : trimS (locS xs) = locS xs := by
  induction xs using snocI with
  | h0 => rfl
  | hs l c ih => rw [locS_snoc, trimS_mulS]
theorem locS_len (xs : List Int) : (locS xs).size = xs.length + 1 := by
  have h := degS_loc xs
  unfold degS at h
  rw [← locS_trim, trimS_len]
  omega
theorem ext_bs {a b : ByteArray} (hl : a.size = b.size) (h : cf (lb a) = cf (lb b)) : a = b := lb_inj.1 (ext_cf (by rw [lb_length, lb_length, hl]) h)

theorem good_nat {xs : List Int} (hg : GoodP xs) : (∀ j ∈ xs.map Int.toNat, j < 255) ∧ (xs.map Int.toNat).Nodup ∧ ∀ i : Nat, i ∈ xs.map Int.toNat ↔ (i : Int) ∈ xs := by
  refine ⟨fun j hj => ?_, ?_, fun i => ⟨fun h => ?_, fun h => ?_⟩⟩
  · obtain ⟨n, hn, rfl⟩ := List.mem_map.1 hj
    have := hg.1 n hn; omega
  · refine List.pairwise_map.2 (hg.2.imp_of_mem fun {a b} ha hb hne h1 => hne ?_)
    have := hg.1 a ha; have := hg.1 b hb; omega
  · obtain ⟨n, hn, e⟩ := List.mem_map.1 h
    have := hg.1 n hn
    have : n = (i : Int) := by omega
    rwa [← this]
  · exact List.mem_map.2 ⟨_, h, by simp⟩
theorem mended_found {t U : ByteArray} {xs : List Int} (ht : t.size = 255) (hU : IsW (lb U)) (hg : GoodP xs) (hr : xs.length + 2 * (oth t U xs).length ≤ 64) : mendedS t xs = (U, true) := by
  obtain ⟨hg1, hg2, hg3⟩ := good_nat hg
  obtain ⟨O, hO⟩ : ∃ O, O = oth t U xs := ⟨_, rfl⟩
  rw [← hO] at hr
  have hOm : ∀ i, i ∈ O ↔ i < 255 ∧ cf (lb U) i ≠ cf (lb t) i ∧ (i : Int) ∉ xs := fun i => by
    rw [hO]; unfold oth othK; rw [List.mem_filter, List.mem_range, decide_eq_true_eq]
  obtain ⟨J, hJd⟩ : ∃ J, J = xs.map Int.toNat ++ O := ⟨_, rfl⟩
  have hJ : ∀ j ∈ J, j < 255 := fun j hj => by
    rw [hJd] at hj
    rcases List.mem_append.1 hj with h | h
    · exact hg1 j h
    · exact ((hOm j).1 h).1
  have hOnd : O.Nodup := by rw [hO]; exact List.nodup_range.filter _
  have hnd : J.Nodup := by
    rw [hJd]
    refine List.nodup_append.2 ⟨hg2, hOnd, fun a ha b hb hab => ?_⟩
    subst hab
    exact ((hOm a).1 hb).2.2 ((hg3 a).1 ha)
  have hJl : J.length = xs.length + O.length := by rw [hJd, List.length_append, List.length_map]
  have htl : (lb t).length = 255 := by rw [lb_length, ht]
  have hUl : U.size = 255 := by rw [← lb_length]; exact hU.1
  have hc : ∀ i, i < 255 → i ∉ J → cf (lb t) i = cf (lb U) i := fun i hi hiJ => by
    refine Decidable.byContradiction fun hne => hiJ ?_
    rw [hJd]
    by_cases hx : (i : Int) ∈ xs
    · exact List.mem_append_left _ ((hg3 i).2 hx)
    · exact List.mem_append_right _ ((hOm i).2 ⟨hi, fun e => hne e.symm, hx⟩)
  have hcge : ∀ i, 255 ≤ i → cf (lb t) i = cf (lb U) i := fun i hi => by rw [cf_ge (by rw [htl]; exact hi), cf_ge (by rw [hU.1]; exact hi)]
  unfold mendedS
  by_cases hz : trimS (synS t) = ⟨#[]⟩
  · rw [if_pos hz]
    have h1 := same_word hU htl J (by omega) (fun j hj => by
      by_cases h : j < 255
      · exact hc j h hj
      · exact hcge j (by omega))
    have h2 : isB t = true := isB_true.2 ⟨htl, synS_trim.1 hz⟩
    rw [bs_lb, bs_lb, h2] at h1
    rw [of_decide_eq_true h1.symm]
  · rw [if_neg hz]
    obtain ⟨E, hE⟩ : ∃ E : Nat → UInt8, E = fun j => cf (lb t) j ^^^ cf (lb U) j := ⟨_, rfl⟩
    have hEj : ∀ j, E j = cf (lb t) j ^^^ cf (lb U) j := fun j => by rw [hE]
    have hS : ∀ m, m < 64 → cf (lb (synS t)) m = serE (J.map fun j => (place j, E j)) m := fun m hm => by
      rw [hE]; unfold synS; rw [lb_bs]; exact syn_wrong htl hU hJ hnd hc m hm
    have hmap : J.map place = xs.map xOf ++ O.map place := by
      rw [hJd, List.map_append, List.map_map]; rfl
    have hKl : (xs.map xOf).length = xs.length := List.length_map _
    have hfst : (J.map fun j => (place j, E j)).map Prod.fst = xs.map xOf ++ O.map place := by rw [List.map_map, ← hmap]; rfl
    have hX0 : ∀ X ∈ xs.map xOf ++ O.map place, X ≠ 0 := fun X hX => by
      rw [← hmap] at hX
      obtain ⟨j, _, rfl⟩ := List.mem_map.1 hX
      exact place_ne j
    have hfd := bm_found (K := xs.map xOf) (O := O.map place) (w := J.map fun j => (place j, E j)) (G := lb (locS xs)) (S := cf (lb (synS t))) hfst
      (by rw [← hmap]; exact places_nodup hJ hnd) hX0
      (fun X e hm hX => by
        obtain ⟨j, hj, h9⟩ := List.mem_map.1 hm
        obtain ⟨i, hi, h8⟩ := List.mem_map.1 hX
        have e1 : place j = X := congrArg Prod.fst h9
        have e2 : E j = e := congrArg Prod.snd h9
        have hij : i = j := place_inj ((hOm i).1 hi).1 (hJ j hj) (h8.trans e1.symm)
        subst hij
        rw [← e2, hEj]
        exact fun h => ((hOm i).1 hi).2.1 (xeq_zero.1 h).symm)
      (by rw [List.length_map, List.length_map]; exact hr) (cf_locS xs) hS
    rw [hKl, List.length_map] at hfd
    have hfo : cf (bmE t xs).found = cf (prodP (J.map place)) := by rw [hmap]; exact hfd.1
    have hlo : (bmE t xs).long = xs.length + O.length := hfd.2
    have hfs : cf (lb (foundS t xs)) = cf (prodP (J.map place)) := by unfold foundS; rw [cf_trimS, lb_bs]; exact hfo
    have hdeg : degS (foundS t xs) = ((bmE t xs).long : Int) := by
      unfold degS
      rw [dl_cf hfs, dl_prod _ (fun X hX => hX0 X (by rw [← hmap]; exact hX)), List.length_map, hlo, hJl]
      omega
    have hwl : (J.map fun j => (place j, E j)).length ≤ 64 := by rw [List.length_map, hJl]; omega
    have hnum : ∀ j, j < 64 → cf (lb (mulS (synS t) (foundS t xs))) j = numE (J.map fun j => (place j, E j)) j := fun j hj => by
      rw [cf_mulS, mulL_comm, mulL_cf hfs, ← prod_ser, hfst, ← hmap]
      exact mulL_local fun i hi => hS i (by omega)
    have hV : cf (lb (valS (synS t) (foundS t xs))) = numE (J.map fun j => (place j, E j)) := by
      unfold valS
      rw [cf_trimS, lb_prefix]
      funext j
      rw [cf_take]
      by_cases hj : j < 64
      · rw [← hnum j hj]
        split
        · rfl
        · exact (cf_ge (by rw [lb_length]; omega)).symm
      · rw [if_neg (by omega), deg_numE _ j (by omega)]
    have hwr : wrongL (synS t) (foundS t xs) = outJ E J 255 := by
      unfold wrongL
      rw [wr_found hJ hnd hfs hV (cf_slopeS _) 255 (Nat.le_refl _)]
      rfl
    have hout : outS t xs = U := by
      refine ext_bs ?_ ?_
      · unfold outS; rw [size_bs, appL_length, htl, hUl]
      · unfold outS
        rw [lb_bs, hwr]
        funext j
        rw [appL_outJ _ _ _ _ (by rw [htl]; exact Nat.le_refl _)]
        by_cases hj : j < 255 ∧ j ∈ J
        · rw [if_pos hj, hEj, xcancel]
        · rw [if_neg hj, xzero]
          by_cases h : j < 255
          · exact hc j h (fun hm => hj ⟨h, hm⟩)
          · exact hcge j (by omega)
    have hfit : fitB t xs = true := decide_eq_true ⟨hdeg, by rw [hwr, outJ_length E J hJ hnd, hlo, hJl]⟩
    rw [if_pos hfit, hout, isB_true.2 hU]
/-- A word that is near is found again. -/
theorem ans_found {t U : ByteArray} {xs : List Int} (ht : t.size = 255) (hU : IsW (lb U)) (hg : GoodP xs) (h64 : xs.length ≤ 64) (hr : (oth t U xs).length ≤ (64 - xs.length) / 2) : ansW t xs = (U, unl t U, 0) := by
  unfold ansW
  rw [if_neg (fun h => by rcases h with h | h; exact h ht; exact h hg), if_neg (by omega), mended_found ht hU hg (by omega), if_neg (by simp), if_neg (by show ¬ (64 - xs.length) / 2 < (oth t U xs).length; omega)]
theorem outS_size (t : ByteArray) (xs : List Int) : (outS t xs).size = t.size := by unfold outS; rw [size_bs, appL_length, lb_length]
/-- What is answered well is a word, and near. -/
theorem ans_sure {t w : ByteArray} {xs at_ : List Int} (h : ansW t xs = (w, at_, 0)) : t.size = 255 ∧ GoodP xs ∧ xs.length ≤ 64 ∧ IsW (lb w) ∧ w.size = 255 ∧ at_ = unl t w ∧ (oth t w xs).length ≤ (64 - xs.length) / 2 := by
  unfold ansW at h
  split at h
  · cases h
  · rename_i h1
    have h1a : t.size = 255 := Decidable.byContradiction fun e => h1 (.inl e)
    have h1b : GoodP xs := Decidable.byContradiction fun e => h1 (.inr e)
    split at h
    · cases h
    · split at h
      · cases h
      · rename_i h3
        split at h
        · cases h
        · rename_i h4
          have e1 : (mendedS t xs).1 = w := congrArg Prod.fst h
          have e2 : unl t (mendedS t xs).1 = at_ := congrArg (fun p => p.2.1) h
          rw [e1] at e2 h4
          have hw : isB w = true := by
            rw [← e1]
            unfold mendedS at h3 ⊢
            split at h3 <;> rename_i h5
            · rw [if_pos h5]; exact isB_true.2 ⟨by rw [lb_length, h1a], synS_trim.1 h5⟩
            · rw [if_neg h5]
              split at h3 <;> rename_i h6
              · rw [if_pos h6]; simpa using h3
              · simp at h3
          have hW := isB_true.1 hw
          exact ⟨h1a, h1b, by omega, hW, by rw [← lb_length]; exact hW.1, e2.symm, by omega⟩
/-- With 64 places told each text is mended. -/
theorem ans_all {t : ByteArray} {xs : List Int} (ht : t.size = 255) (hg : GoodP xs) (h64 : xs.length = 64) : ∃ U : ByteArray, IsW (lb U) ∧ ansW t xs = (U, unl t U, 0) ∧ ∀ i : Nat, i < 255 → (i : Int) ∉ xs → cf (lb U) i = cf (lb t) i := by
  obtain ⟨hg1, hg2, hg3⟩ := good_nat hg
  have htl : (lb t).length = 255 := by rw [lb_length, ht]
  obtain ⟨J, hJ⟩ : ∃ J, J = xs.map Int.toNat := ⟨_, rfl⟩
  rw [← hJ] at hg1 hg2 hg3
  have hJl : J.length = 64 := by rw [hJ, List.length_map, h64]
  obtain ⟨w, hw, hs⟩ := vander (J.map place) (places_nodup hg1 hg2) (fun m => hv (lb t) (ex m))
  -- what is wrong, as a function of the place
  obtain ⟨E, hE⟩ : ∃ E : Nat → UInt8, w = J.map fun j => (place j, E j) := by
    clear hs hJl hJ hg3
    induction J generalizing w with
    | nil => exact ⟨fun _ => 0, List.map_eq_nil_iff.1 hw⟩
    | cons j J ih =>
      cases w with
      | nil => simp at hw
      | cons p w =>
        obtain ⟨Y, e⟩ := p
        rw [List.map_cons, List.map_cons] at hw
        injection hw with hY hw'
        obtain ⟨h1, h2⟩ := List.nodup_cons.1 hg2
        obtain ⟨E, hE⟩ := ih h2 (fun i hi => hg1 i (List.mem_cons_of_mem _ hi)) w hw'
        refine ⟨fun i => if i = j then e else E i, ?_⟩
        have hY' : Y = place j := hY
        rw [List.map_cons, hE, hY']
        show (place j, e) :: _ = (place j, if j = j then e else E j) :: _
        rw [if_pos rfl]
        congr 1
        refine List.map_congr_left fun i hi => ?_
        show (place i, E i) = (place i, if i = j then e else E i)
        rw [if_neg (fun e9 : i = j => h1 (e9 ▸ hi))]
  obtain ⟨U, hUd⟩ : ∃ U : ByteArray, U = bs (ofF 255 fun i => cf (lb t) i ^^^ (if i ∈ J then E i else 0)) := ⟨_, rfl⟩
  have hUc : ∀ i, i < 255 → cf (lb U) i = cf (lb t) i ^^^ (if i ∈ J then E i else 0) := fun i hi => by rw [hUd, lb_bs, cf_ofF, if_pos hi]
  have hUl : (lb U).length = 255 := by rw [hUd, lb_bs, ofF_length]
  have hU : IsW (lb U) := by
    refine ⟨hUl, fun m hm => ?_⟩
    have h1 := hs m (by rw [List.length_map, hJl]; exact hm)
    rw [hE, serE_lsum, lsum_sx _ hg1 hg2, syn_place _ htl] at h1
    rw [syn_place _ hUl]
    have h2 : sx 255 (fun i => gm (cf (lb U) i) (xpw (place i) m)) = sx 255 (fun i => gm (cf (lb t) i) (xpw (place i) m)) ^^^ sx 255 (fun i => if i ∈ J then gm (E i) (xpw (place i) m) else 0) := by
      rw [← sx_xor]
      refine sx_congr fun i hi => ?_
      rw [hUc i hi, xor_gm]
      by_cases h : i ∈ J
      · rw [if_pos h, if_pos h]
      · rw [if_neg h, if_neg h, zero_gm]
    rw [h2, h1, xself]
  have hout : ∀ i : Nat, i < 255 → (i : Int) ∉ xs → cf (lb U) i = cf (lb t) i := fun i hi hx => by rw [hUc i hi, if_neg (fun h => hx ((hg3 i).1 h)), xzero]
  refine ⟨U, hU, ans_found ht hU hg (by omega) ?_, hout⟩
  have : oth t U xs = [] := by
    unfold oth othK
    refine List.filter_eq_nil_iff.2 fun i hi => ?_
    rw [List.mem_range] at hi
    simp only [decide_eq_true_eq]
    exact fun h => h.1 (hout i hi h.2)
  rw [this]; exact Nat.zero_le _
theorem mem_unl {t w : ByteArray} (i : Nat) : (i : Int) ∈ unl t w ↔ i < 255 ∧ cf (lb w) i ≠ cf (lb t) i := by
  unfold unl unlK
  rw [List.mem_map]
  constructor
  · rintro ⟨j, hj, e⟩
    have : j = i := by omega
    subst this
    rw [List.mem_filter, List.mem_range, decide_eq_true_eq] at hj
    exact hj
  · intro h
    exact ⟨i, by rw [List.mem_filter, List.mem_range, decide_eq_true_eq]; exact h, rfl⟩
/-- Told fewer places. -/
theorem ans_fewer {t w : ByteArray} {xs at_ : List Int} {n : Nat} (hn : n ≤ xs.length) (h : ansW t xs = (w, at_, 0)) (hx : ∀ x ∈ xs.drop n, x ∉ at_) : ansW t (xs.take n) = (w, at_, 0) := by
  obtain ⟨h1, h2, h3, h4, h5, h6, h7⟩ := ans_sure h
  have hg : GoodP (xs.take n) := ⟨fun x hx => h2.1 x (List.mem_of_mem_take hx), h2.2.sublist (List.take_sublist _ _)⟩
  have he : oth t w (xs.take n) = oth t w xs := by
    unfold oth othK
    refine List.filter_congr fun i hi => ?_
    rw [List.mem_range] at hi
    rw [decide_eq_decide]
    constructor
    · rintro ⟨a, b⟩
      refine ⟨a, fun hm => ?_⟩
      rw [← List.take_append_drop n xs] at hm
      rcases List.mem_append.1 hm with hm | hm
      · exact b hm
      · exact hx _ hm (by rw [h6]; exact (mem_unl i).2 ⟨hi, a⟩)
    · rintro ⟨a, b⟩
      exact ⟨a, fun hm => b (List.mem_of_mem_take hm)⟩
  have hl : (xs.take n).length = n := by rw [List.length_take]; omega
  rw [ans_found h1 h4 hg (by omega) (by rw [he, hl]; omega), ← h6]
/-- The order in which places are told does not count. -/
theorem locS_perm {a b : List Int} (h : a.Perm b) : locS a = locS b := by
  have hc : cf (lb (locS a)) = cf (lb (locS b)) := by
    rw [cf_locS, cf_locS]
    have : ∀ {a b : List UInt8}, a.Perm b → cf (prodP a) = cf (prodP b) := by
      intro a b h
      induction h with
      | nil => rfl
      | cons x _ ih => rw [cf_prodP, cf_prodP, ih]
      | swap x y l => rw [cf_prodP, cf_prodP, cf_prodP, cf_prodP, mulL_swap]
      | trans _ _ i1 i2 => exact i1.trans i2
    exact this (h.map _)
  rw [← locS_trim a, ← locS_trim b]
  unfold trimS
  rw [trim_ext hc]
theorem ans_perm {t : ByteArray} {a b : List Int} (h : a.Perm b) : ansW t a = ansW t b := by
  have hl := h.length_eq
  have hg : GoodP a ↔ GoodP b := by
    unfold GoodP
    rw [h.nodup_iff]
    exact ⟨fun k => ⟨fun x hx => k.1 x (h.mem_iff.2 hx), k.2⟩, fun k => ⟨fun x hx => k.1 x (h.mem_iff.1 hx), k.2⟩⟩
  have hb : bmE t a = bmE t b := by unfold bmE; rw [hl, locS_perm h]
  have hm : mendedS t a = mendedS t b := by unfold mendedS fitB outS foundS; rw [hb]
  have ho : ∀ w, oth t w a = oth t w b := fun w => by
    unfold oth othK
    refine List.filter_congr fun i _ => ?_
    rw [decide_eq_decide, h.mem_iff]
  unfold ansW
  rw [hm, hl, ho]
  by_cases h1 : t.size ≠ 255 ∨ ¬ GoodP a
  · have h2 : t.size ≠ 255 ∨ ¬ GoodP b := h1.imp_right fun k => fun k2 => k (hg.2 k2)
    rw [if_pos h1, if_pos h2]
  · have h2 : ¬ (t.size ≠ 255 ∨ ¬ GoodP b) := fun k => h1 (k.imp_right fun k => fun k2 => k (hg.1 k2))
    rw [if_neg h1, if_neg h2]
end Go.Proofs.YtpkpfebhdgbgbaaGreatDoor
