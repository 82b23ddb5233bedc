/- The program's division of polynomials: quotient and rest make up the first one again. Condition: fewer than 2^38 bytes. -/
import Derived.Test.YtollgkmgooancaaDoorPm5
import Derived.Test.YtollgkmgooancaaDoorBr2
import Derived.Test.YtollgkmgooancaaDoorJumps
import Derived.LoopN
namespace Go.Proofs.YtollgkmgooancaaDoor
open Go.RowKit
set_option linter.unusedSimpArgs false
set_option linter.unusedVariables false

theorem sh_shn (n : Nat) (f : Nat → UInt8) : sh (shn n f) = shn n (sh f) := by
  induction n with
  | zero => rfl
  | succ n ih => rw [shn, shn, ih]
theorem shn_pad (n : Nat) (f g : Nat → UInt8) : shn n (pad f g) = pad (shn n f) (shn n g) := by
  induction n with
  | zero => rfl
  | succ n ih => rw [shn, ih, sh_pad]; rfl
theorem mulL_shn (l : List UInt8) (n : Nat) (f : Nat → UInt8) : mulL l (shn n f) = shn n (mulL l f) := by
  induction n with
  | zero => rfl
  | succ n ih => rw [shn, mulL_sh, ih]; rfl
theorem cf_snoc_rev (O : List UInt8) (x : UInt8) : cf (O ++ [x]).reverse = pad (scl x p1) (sh (cf O.reverse)) := by
  rw [List.reverse_append]
  show cf (x :: O.reverse) = _
  rw [cf_cons]
  congr 1
  funext n
  rw [p1_eq]
  show (if n = 0 then x else 0) = gm x (if n = 0 then 1 else 0)
  split
  · exact (gm_one x).symm
  · exact (gm_zero x).symm
/-- The quotient so far by the divisor, and what is left, make up the first one. -/
def DivI (A Bl O Lf : List UInt8) : Prop := pad (mulL Bl (shn (Lf.length + 1 - Bl.length) (cf O.reverse))) (cf Lf) = cf A ∧ (Bl.length ≤ Lf.length + 1 ∨ O = [])
theorem DivI.step {A Bl O Lf M : List UInt8} {x lead : UInt8} (h : DivI A Bl O Lf) (hn : 0 < Bl.length) (hk : Bl.length ≤ Lf.length)
    (hx : x = gm (cf Lf (Lf.length - 1)) lead) (hl : gm lead (cf Bl (Bl.length - 1)) = 1) (hM : M.length = Lf.length) (hc : cf M = pad (cf Lf) (shn (Lf.length - Bl.length) (scl x (cf Bl)))) :
    DivI A Bl (O ++ [x]) (M.take (Lf.length - 1)) := by
  have hlen : (M.take (Lf.length - 1)).length = Lf.length - 1 := by rw [List.length_take, hM]; omega
  have htop : cf M (Lf.length - 1) = 0 := by
    rw [hc]
    show cf Lf (Lf.length - 1) ^^^ shn _ _ _ = 0
    rw [shn_apply, if_neg (by omega), show Lf.length - 1 - (Lf.length - Bl.length) = Bl.length - 1 by omega]
    show _ ^^^ gm x (cf Bl (Bl.length - 1)) = 0
    rw [hx, gm_assoc, hl, gm_one, xself]
  have hcut : cf (M.take (Lf.length - 1)) = cf M := by
    funext j
    rw [cf_take]
    split
    · rfl
    · by_cases e : j = Lf.length - 1
      · rw [e, htop]
      · exact (cf_ge (by omega)).symm
  refine ⟨?_, .inl (by omega)⟩
  rw [hlen, hcut, hc, cf_snoc_rev, shn_pad, mulL_pad, show Lf.length - 1 + 1 - Bl.length = Lf.length - Bl.length by omega, mulL_shn, mulL_scl, mulL_one, ← sh_shn]
  have h1 := h.1
  rw [show Lf.length + 1 - Bl.length = (Lf.length - Bl.length) + 1 by omega] at h1
  rw [← h1]
  generalize shn (Lf.length - Bl.length) (scl x (cf Bl)) = p
  show pad (pad p (mulL Bl (shn (Lf.length - Bl.length + 1) (cf O.reverse)))) (pad (cf Lf) p) = _
  generalize mulL Bl (shn (Lf.length - Bl.length + 1) (cf O.reverse)) = q
  rw [pad_comm p q, pad_assoc, pad_comm (cf Lf), pad_cancel]

/-- What Divide answers where the divisor is not nought. -/
def DivPost (a b : ByteArray) (w : World) (e : Ending) (w' : World) : Prop :=
  Same [] w w' ∧ ∃ q r : List UInt8, e = .returned (.tuple #[.string (bs q), .string (bs r), .int .i64 0]) ∧ trimL q = q ∧ trimL r = r ∧ r.length < dl (lb b) ∧ q.length ≤ a.size ∧ pad (mulL (trimL (lb b)) (cf q)) (cf r) = cf (lb a)

def lenV (v : Value) : Nat := match v with | .slice _ n _ => n | _ => 0
theorem RowF.set {w : World} {v : Value} {g : Nat} {l : List UInt8} (h : RowF w v g (u8l l)) (i : Nat) (hi : i < l.length) (x : UInt8) : RowF (w.setCell ⟨g, i, none⟩ (.int .u8 (x.toNat : Int))) v g (u8l (l.set i x)) := by
  obtain ⟨cap, rfl, h1, h2, h3, h4⟩ := h
  have hcell : ∀ j, (w.setCell ⟨g, i, none⟩ (.int .u8 (x.toNat : Int))).cell? ⟨g, j, none⟩ = if j = i then some (.int .u8 (x.toNat : Int)) else w.cell? ⟨g, j, none⟩ := fun j => by
    rw [u8l_length] at h1
    obtain ⟨u, hu⟩ := Option.isSome_iff_exists.1 (h4 i (by omega)).1
    obtain ⟨cells, t, fz, hb⟩ : ∃ cells t fz, w.heap[g]? = some (.cells cells t fz) := by
      unfold World.cell? at hu
      simp only at hu
      split at hu
      · rename_i c t f hh; exact ⟨_, _, _, hh⟩
      · cases hu
    rw [cell_of (set_same hb _), cell_of hb]
    by_cases e : j = i
    · subst e
      rw [if_pos rfl, Array.getElem?_setIfInBounds_self_of_lt]
      rw [cell_of hb] at hu
      exact (Array.getElem?_eq_some_iff.1 hu).1
    · rw [if_neg e, Array.getElem?_setIfInBounds_ne (by omega)]
  refine ⟨cap, by simp [u8l], by simpa [u8l] using h1, h2, fun j u hj => ?_, fun j hj => ?_⟩
  · rw [hcell]
    have hjl : j < l.length := by have := (List.getElem?_eq_some_iff.1 hj).1; simpa [u8l] using this
    by_cases e : j = i
    · subst e
      rw [if_pos rfl, ← hj]
      simp [u8l, u8v, hjl]
    · rw [if_neg e]
      refine h3 j u ?_
      rw [← hj]
      simp only [u8l, List.getElem?_map]
      rw [List.getElem?_set_ne (by omega)]
  · constructor
    · rw [hcell]; split
      · rfl
      · exact (h4 j hj).1
    · rw [World.frozen?_setCell]; exact (h4 j hj).2
theorem RowF.cut {w : World} {g n cap : Nat} {l : List UInt8} (h : RowF w (.slice (some ⟨g, 0, none⟩) n cap) g (u8l l)) (k : Nat) (hk : k ≤ l.length) : RowF w (.slice (some ⟨g, 0, none⟩) k cap) g (u8l (l.take k)) := by
  obtain ⟨cap', hv, h1, h2, h3, h4⟩ := h
  cases hv
  refine ⟨_, by rw [u8l_length, List.length_take, Nat.min_eq_left hk], by rw [u8l_length, List.length_take] at *; omega, h2, fun j u hj => h3 j u ?_, h4⟩
  rw [← hj]
  have hjl : j < k := by have := (List.getElem?_eq_some_iff.1 hj).1; rw [u8l_length, List.length_take] at this; omega
  simp only [u8l, List.getElem?_map, List.getElem?_take]
  rw [if_pos hjl]
theorem RowF.drew {w : World} {v : Value} {g : Nat} {ys : List Value} (h : RowF w v g ys) : RowF w.drew v g ys := h
theorem RowF.drewN {w : World} {v : Value} {g : Nat} {ys : List Value} (h : RowF w v g ys) (n : Nat) : RowF (w.drewN n) v g ys := h

theorem padK_zero (F : Nat → UInt8) (a : Nat) (x : UInt8) : F = pad F (shn a (scl x (cf []))) := by
  funext j
  show F j = F j ^^^ shn a _ j
  rw [shn_apply]
  split
  · exact (xzero _).symm
  · show F j = F j ^^^ gm x (cf [] _)
    rw [cf_nil]; show F j = F j ^^^ gm x 0
    rw [gm_zero, xzero]
theorem padK_succ (F : Nat → UInt8) (a : Nat) (x : UInt8) (P : List UInt8) (k j : Nat) :
    pad F (shn a (scl x (cf (P.take (k + 1))))) j = if j = a + k then pad F (shn a (scl x (cf (P.take k)))) j ^^^ gm x (cf P k) else pad F (shn a (scl x (cf (P.take k)))) j := by
  show F j ^^^ shn a (scl x (cf (P.take (k + 1)))) j = if j = a + k then (F j ^^^ shn a (scl x (cf (P.take k))) j) ^^^ gm x (cf P k) else F j ^^^ shn a (scl x (cf (P.take k))) j
  simp only [shn_apply, scl, cf_take]
  by_cases h1 : j < a
  · rw [if_pos h1, if_pos h1, if_neg (by omega)]
  · rw [if_neg h1, if_neg h1]
    by_cases h2 : j = a + k
    · subst h2
      rw [if_pos rfl, Nat.add_sub_cancel_left, if_pos (by omega), if_neg (by omega), gm_zero, xzero]
    · rw [if_neg h2]
      by_cases h3 : j - a < k
      · rw [if_pos h3, if_pos (by omega)]
      · rw [if_neg h3, if_neg (by omega)]

/-! ## The walk -/
def divJ (w : World) (t : ByteArray) (A : List UInt8) (B G N : Nat) (lead : UInt8) (a : Act) (w' : World) : Prop :=
  ∃ (Lf O : List UInt8) (v vo : Value) (u0 u2 u3 u11 u12 u13 u14 u15 u16 u17 u18 u19 u20 u21 u22 u23 u24 u25 u26 u27 u28 u29 u30 u31 u32 u33 u34 u35 u36 u37 u38 u39 u40 u41 u42 u43 u44 u45 u46 u47 u48 u49 u50 u51 u52 u53 u54 u55 u56 u57 u58 u59 u60 u61 u62 u63 u64 u65 u66 u67 u68 u69 u70 u71 u72 u73 u74 u75 u76 u77 u78 u79 u80 u81 : Value), DivI A (lb t) O Lf ∧ O.length + Lf.length = N ∧ RowF w' v G (u8l Lf) ∧ OwnB (G + 1) w' vo O ∧ G + 1 ≤ w'.heap.size ∧ FieldAt w' B ∧ Same [] w w' ∧
    a = { tmps := #[u0, .string t, u2, u3, .string ⟨#[]⟩, .string ⟨#[]⟩, .int .i64 0, .pointer (some ⟨B, 0, none⟩), v, .int .u8 (lead.toNat : Int), vo, u11, u12, u13, u14, u15, u16, u17, u18, u19, u20, u21, u22, u23, u24, u25, u26, u27, u28, u29, u30, u31, u32, u33, u34, u35, u36, u37, u38, u39, u40, u41, u42, u43, u44, u45, u46, u47, u48, u49, u50, u51, u52, u53, u54, u55, u56, u57, u58, u59, u60, u61, u62, u63, u64, u65, u66, u67, u68, u69, u70, u71, u72, u73, u74, u75, u76, u77, u78, u79, u80, u81], defers := [] }

theorem div_nought (a b : ByteArray) (w : World) (hb : b.size ≤ 9223372036854775807) (h : dl (lb b) = 0) :
    Calls Tryd.prog 17 #[.string a, .string b] w fun e w' => e = .returned (.tuple #[.string ⟨#[]⟩, .string ⟨#[]⟩, .int .i64 16]) ∧ w = w' := by
  have ht : trimS b = ⟨#[]⟩ := by unfold trimS; rw [dl_zero'.1 h]; rfl
  have HT := Lib.hid (fun W => trim_any b W hb)
  rw [ht] at HT
  clear ht
  go_enter Tryd.func17, Tryd.ntmps17
  go_wp2_with fail
  refine wp_scope_one 0 (fun _ _ => False) (fun _ _ => 0) rfl ?_ (fun _ _ h => h.elim)
  simp only [wpAll]
  go_wp2_with fail
  (with_reducible refine (HT.out _).mono ?_)
  rintro e w' ⟨rfl, rfl⟩
  go_wp2_with fail
  simp only [noJump]
  go_ret3
  exact ⟨rfl, rfl⟩

set_option maxRecDepth 100000 in
set_option maxHeartbeats 16000000 in
theorem div_any (a b : ByteArray) (w : World) (ha : a.size < 274877906944) (hb : b.size < 274877906944) (hd : dl (lb b) ≠ 0) :
    Calls Tryd.prog 17 #[.string a, .string b] w (DivPost a b w) := by
  obtain ⟨i0, hi, hz0, hz1, hz2⟩ := info_parts Tryd.infoB
  obtain ⟨B, hB⟩ : ∃ B, B = w.heap.size := ⟨_, rfl⟩
  obtain ⟨t, ht⟩ : ∃ t, t = trimS b := ⟨_, rfl⟩
  have htl : lb t = trimL (lb b) := by rw [ht]; rfl
  have htz : t.size = dl (lb b) := by rw [ht, trimS_len]
  have htz2 : 0 < t.size := by omega
  have htb : t.size ≤ b.size := by rw [ht]; exact trimS_size b
  have hne := (ne_empty t (by omega)).1
  have HT := Lib.hid (fun W => trim_any b W (by omega))
  rw [← ht] at HT
  obtain ⟨s, hs⟩ : ∃ s, s = trimS a := ⟨_, rfl⟩
  have hsa : s.size ≤ a.size := by rw [hs]; exact trimS_size a
  have hsc : cf (lb s) = cf (lb a) := by rw [hs]; exact cf_trim _
  have HSA := Lib.hid (fun W => trim_any a W (by omega))
  rw [← hs] at HSA
  obtain ⟨m, hm⟩ : ∃ m, t.size = m + 1 := ⟨t.size - 1, by omega⟩
  obtain ⟨c, hc⟩ : ∃ c, c = cf (lb t) m := ⟨_, rfl⟩
  obtain ⟨lead, hlead⟩ : ∃ lead, lead = inv c := ⟨_, rfl⟩
  have hl1 : gm lead (cf (lb t) ((lb t).length - 1)) = 1 := by
    have h0 : c ≠ 0 := by
      rw [hc, htl, cf_trim, show m = dl (lb b) - 1 by omega]
      exact dl_last hd
    rw [lb_length, hm, Nat.add_sub_cancel, ← hc, hlead, gm_comm]
    exact gm_inv h0
  have HB := Lib.hid hB; have HTL := Lib.hid htl; have HTZ := Lib.hid htz; have HSC := Lib.hid hsc; have HL1 := Lib.hid hl1; have HLE := Lib.hid hlead; have HHC := Lib.hid hc
  clear hB htl htz hs hsc ht hd hl1 hlead hc
  go_enter Tryd.func17, Tryd.ntmps17
  go_wp2_with fail
  refine wp_scope_one 0 (fun a w' => ∃ G, B < G ∧ divJ w t (lb s) B G s.size lead a w') (fun a _ => lenV (a.tmps.getD 8 undef)) rfl ?_ ?_
  · simp only [wpAll]
    have hcv := fun W => run_cut s W
    go_wp2_with fail
    (with_reducible refine (HT.out _).mono ?_)
    rintro e w' ⟨rfl, rfl⟩
    go_wp2_with fail
    (with_reducible refine (new_any _).mono ?_)
    rintro e w1 ⟨rfl, f1, s1⟩
    rw [← HB.out] at f1 ⊢
    have F1 := Lib.hid f1; have S1 := Lib.hid s1
    have hlt := f1.lt
    clear f1 s1
    go_wp2_with fail
    (with_reducible refine (HSA.out _).mono ?_)
    rintro e w' ⟨rfl, rfl⟩
    obtain ⟨G, hG⟩ : ∃ G, G = w1.heap.size := ⟨_, rfl⟩
    have hr2 := cut_rowl s w1 (by unfold maxLen; omega)
    have hs2 := cut_same s w1
    have hz2' : (cutW w1 s).heap.size = G + 1 := by
      show (w1.heap.push _).size = _
      simp [hG]
    rw [← hG] at hr2 hlt
    have hbt := bt_at t m (by omega)
    rw [← HHC.out] at hbt
    have f2 := F1.out.same hs2 (by simp)
    have hsw2 := S1.out.trans_nil hs2
    have HI := Lib.hid (finv_any B c (cutW w1 s) f2)
    rw [← HLE.out] at HI
    have HR2 := Lib.hid hr2; have HS2 := Lib.hid hs2; have HZ2 := Lib.hid hz2'; have F2 := Lib.hid f2; have HSW2 := Lib.hid hsw2
    clear hr2 hs2 hz2' f2 hsw2 F1 S1 hG
    go_wp2_with fail
    (with_reducible refine HI.out.mono ?_)
    rintro e w' ⟨rfl, nd, rfl⟩
    go_wp2_with fail
    refine ⟨G, hlt, lb s, [], _, _, _, _, _, _, _, _, _, _, _, _, _, _, _, _, _, _, _, _, _, _, _, _, _, _, _, _, _, _, _, _, _, _, _, _, _, _, _, _, _, _, _, _, _, _, _, _, _, _, _, _, _, _, _, _, _, _, _, _, _, _, _, _, _, _, _, _, _, _, _, _, _, _, _, _, ⟨?_, .inr rfl⟩, by simp [lb_length], HR2.out, OwnB.nil _ _, by have := HZ2.out; simp; omega, F2.out, HSW2.out.drewN nd, rfl⟩
    funext j
    show mulL _ (shn _ (cf [])) j ^^^ _ = _
    rw [cf_nil, mulL_shn, mulL_pz, shn_apply]
    split <;> simp [pz]
  · rintro a1 w1 ⟨G, hlt, Lf, O, v, vo, u0, u2, u3, u11, u12, u13, u14, u15, u16, u17, u18, u19, u20, u21, u22, u23, u24, u25, u26, u27, u28, u29, u30, u31, u32, u33, u34, u35, u36, u37, u38, u39, u40, u41, u42, u43, u44, u45, u46, u47, u48, u49, u50, u51, u52, u53, u54, u55, u56, u57, u58, u59, u60, u61, u62, u63, u64, u65, u66, u67, u68, u69, u70, u71, u72, u73, u74, u75, u76, u77, u78, u79, u80, u81, hinv, hN, hrow, hown, hz, hf, hsm, rfl⟩
    obtain ⟨cap, hv, hrc, hcm⟩ : ∃ cap, v = .slice (some ⟨G, 0, none⟩) Lf.length cap ∧ Lf.length ≤ cap ∧ cap ≤ maxLen := by
      obtain ⟨cap, hv, h1, h2, _⟩ := hrow
      rw [u8l_length] at hv h1
      exact ⟨cap, hv, h1, h2⟩
    subst hv
    obtain ⟨ado, co, rfl⟩ := hown.form
    have HMM := Lib.hid hm
    have htm : t.size < 274877906944 := by omega
    clear hm
    have hLs : Lf.length ≤ s.size := by omega
    have hOs : O.length ≤ s.size := by omega
    have HI := Lib.hid hinv; have HN := Lib.hid hN; have HR := Lib.hid hrow; have HO := Lib.hid hown; have HF := Lib.hid hf; have HSM := Lib.hid hsm
    clear hinv hN hrow hown hf hsm
    by_cases hk : Lf.length < t.size
    · have hki : (Lf.length : Int) - (t.size : Int) < 0 := by omega
      have HREV := Lib.hid (rev_any (G + 1) _ O w1 HO.out (by omega))
      go_wp2_with fail
      (with_reducible refine HREV.out.mono ?_)
      rintro e w2 ⟨⟨u, rfl⟩, ho2, hs2⟩
      have hGO : G ∉ (Value.slice ado O.length co).ownBlock.toList := fun hm => by
        have := (HO.out.lt G (by simpa using hm)).1; omega
      have hBO : ∀ x, x ∈ (Value.slice ado O.length co).ownBlock.toList → G + 1 ≤ x := fun x hx => (HO.out.lt x (by simpa using hx)).1
      have hr2 := HR.out.same hs2 hGO
      have hcv1 : ∀ n, (convert 39 9 (.slice ado O.length co)).run Tryd.prog (w2.drewN n) = .ok (.string (bs O.reverse)) (w2.drewN n) := fun n => OwnB.str (B := G + 1) (w := w2.drewN n) ho2
      have hcv2 : ∀ n, (convert 39 9 (.slice (some ⟨G, 0, none⟩) Lf.length cap)).run Tryd.prog (w2.drewN n) = .ok (.string (bs Lf)) (w2.drewN n) := fun n => RowF.str (w := w2.drewN n) hr2
      have hss : Same [] w w2 := HSM.out.trans hs2 (fun x hx hlt => by have := hBO x hx; have := HB.out; omega)
      have HT1 := Lib.hid (fun W => trim_any (bs O.reverse) W (by rw [size_bs, List.length_reverse]; omega))
      have HT2 := Lib.hid (fun W => trim_any (bs Lf) W (by rw [size_bs]; omega))
      have HSS := Lib.hid hss; have HBO := Lib.hid hBO
      clear ho2 hs2 hr2 hss hGO hBO HREV
      go_wp2_with fail
      go_quiet ((first | (go_at_call 33; exact Calls.quiet_of_same ((HT1.out _).mono fun _ _ h => ⟨h.1, h.2.symm⟩)) | (go_at_call 33; exact Calls.quiet_of_same ((HT2.out _).mono fun _ _ h => ⟨h.1, h.2.symm⟩))))
      go_wp2_with fail
      simp only [jump1]
      go_ret3
      refine ⟨HSS.out.drewN _, trimL O.reverse, trimL Lf, rfl, trim_trim _, trim_trim _, ?_, ?_, ?_⟩
      · have := trim_length Lf
        have := HTZ.out
        omega
      · have := trim_length O.reverse
        rw [List.length_reverse] at this
        omega
      · have hi := HI.out.1
        have hle : Lf.length + 1 - (lb t).length = 0 ∨ O = [] := by
          rw [lb_length]
          rcases HI.out.2 with h | h
          · left; omega
          · exact .inr h
        rw [← HTL.out, cf_trim, cf_trim, ← HSC.out, ← hi]
        rcases hle with h | h
        · rw [h]; rfl
        · rw [h]
          show pad (mulL (lb t) (cf [])) _ = pad (mulL (lb t) (shn _ (cf []))) _
          have : ∀ n, shn n (cf []) = cf [] := fun n => by
            funext j; rw [shn_apply]; simp [cf]
          rw [this]
    · have hki : ¬ (Lf.length : Int) - (t.size : Int) < 0 := by omega
      obtain ⟨at_, hat⟩ : ∃ at_, at_ = Lf.length - t.size := ⟨_, rfl⟩
      have hati : (Lf.length : Int) - (t.size : Int) = (at_ : Int) := by omega
      have hk0 : 0 < Lf.length := by omega
      have hk1 : (0 : Int) ≤ (Lf.length : Int) - 1 := by omega
      have hk2 : (Lf.length : Int) - 1 < (Lf.length : Int) := by omega
      have hk3 : ((Lf.length : Int) - 1).toNat = Lf.length - 1 := by omega
      have c1 := HR.out.cell (Lf.length - 1) (by omega)
      obtain ⟨y, hy⟩ : ∃ y, y = cf Lf (Lf.length - 1) := ⟨_, rfl⟩
      rw [← hy] at c1
      obtain ⟨x, hx⟩ : ∃ x, x = gm y lead := ⟨_, rfl⟩
      have HM := Lib.hid (fmul_any B y lead w1 HF.out)
      rw [← hx] at HM
      have HX := Lib.hid (show x = gm (cf Lf (Lf.length - 1)) lead by rw [hx, hy])
      have HAT := Lib.hid hat
      have hatl : at_ + t.size = Lf.length := by omega
      have HATL := Lib.hid hatl
      have HKN := Lib.hid hk
      clear hx hy hat hatl hk
      go_wp2_with fail
      (with_reducible refine HM.out.mono ?_)
      rintro e w' ⟨rfl, nd, rfl⟩
      have hl63 : O.length + 1 ≤ maxLen := by unfold maxLen; omega
      have hlen : (O.length + 1) * 1 ≤ 140737488355328 := by omega
      have hbase : G + 1 ≤ ((w1.drewN nd).alloc (.cells #[.int .u8 (x.toNat : Int)] 5)).heap.size := by simp; omega
      have hd := (show OwnB (G + 1) (w1.drewN nd) (.slice ado O.length co) O from HO.out).alloc (.cells #[.int .u8 (x.toNat : Int)] 5)
      have HD := Lib.hid hd
      clear hd
      go_wp2_with (at_builtin; refine wpList_append_src rfl (.tmp 53) (.tmp 55) 39 rfl (G + 1) 5 i0 (.int .u8 0) 1 1 Tryd.underlying39 hi hz0 hz1 hz2 rfl (by decide) _ O.length _ rfl HD.out _ 1 _ rfl (reads_one _ _) (one_u8l _) hl63 hlen hbase ?_; intro v' w3 hown hgrow hat; have HOWN := Lib.hid hown; have HG := Lib.hid hgrow; clear hown hgrow hat)
      have hown3 : OwnB (G + 1) w3 v' (O ++ [x]) := by unfold OwnB; rw [List.length_append, u8l_app]; exact HOWN.out
      have hb3 : ∀ k, k ∈ (Value.slice ado O.length co).ownBlock.toList → G + 1 ≤ k := fun k hk => (HO.out.lt k (by simpa using hk)).1
      have hs3 : Same (Value.slice ado O.length co).ownBlock.toList w1 w3 := (((Same.refl _ w1).drewN nd).alloc _).trans (Same.of_grown HG.out) (fun k hk _ => hk)
      have hr3 := HR.out.same hs3 (fun hm => by have := hb3 _ hm; omega)
      have hf3 := HF.out.same hs3 (fun hm => by have := hb3 _ hm; omega)
      have hss3 : Same [] w w3 := HSM.out.trans hs3 (fun k hk hlt => by have := hb3 _ hk; have := HB.out; omega)
      have hz3 := hs3.size
      have HO3 := Lib.hid hown3; have HR3 := Lib.hid hr3; have HF3 := Lib.hid hf3; have HS3 := Lib.hid hss3
      clear hown3 hb3 hs3 hr3 hf3 hss3 c1 HM HD HOWN HG hi hz0 hz1 hz2 hl63 hlen hbase
      go_loopw [59] (fun i wr => ∃ (q : Nat) (M : List UInt8), q ≤ t.size ∧ i = .int .i64 q ∧ M.length = Lf.length ∧ cf M = pad (cf Lf) (shn at_ (scl x (cf ((lb t).take q)))) ∧ RowF wr (.slice (some ⟨G, 0, none⟩) Lf.length cap) G (u8l M) ∧ OwnB (G + 1) wr v' (O ++ [x]) ∧ G + 1 ≤ wr.heap.size ∧ FieldAt wr B ∧ Same [] w wr) (fun i _ => t.size - (intOf i).toNat)
      case atStart =>
        refine ⟨0, Lf, Nat.zero_le _, rfl, rfl, ?_, HR3.out, HO3.out, by omega, HF3.out, HS3.out⟩
        rw [List.take_zero]; exact padK_zero _ _ _
      case round =>
        obtain ⟨q, M, hq, rfl, hM, hc, hr, ho, hgz, hf, hs⟩ := hrel
        have HMl := Lib.hid hM; have HCC := Lib.hid hc; have HRR := Lib.hid hr; have HOO := Lib.hid ho; have HFF := Lib.hid hf; have HSS := Lib.hid hs
        by_cases h1 : q < t.size
        · have h1i : (q : Int) < (t.size : Int) := by omega
          have hbq := bt_at t q h1
          have hkm : at_ + q < Lf.length := by have := HATL.out; omega
          have c0 := hr.cell (at_ + q) (by omega)
          have f0 : wr.frozen? ⟨G, at_ + q, none⟩ = false := by
            obtain ⟨cap', hv', h5, h6, h7, h8⟩ := hr
            rw [u8l_length] at h5
            exact (h8 _ (by omega)).2
          obtain ⟨y2, hy2⟩ : ∃ y2, y2 = cf M (at_ + q) := ⟨_, rfl⟩
          rw [← hy2] at c0
          obtain ⟨z, hz⟩ : ∃ z, z = gm x (cf (lb t) q) := ⟨_, rfl⟩
          have HM := Lib.hid (fmul_any B x (cf (lb t) q) wr.drew hf.drew)
          rw [← hz] at HM
          have HZ := Lib.hid hz; have HY2 := Lib.hid hy2
          have hw : IntKind.i64.wrap ((at_ : Int) + (q : Int)) = (at_ : Int) + (q : Int) := IntWalk.i64_in _ (by omega)
          have hn0 : (0 : Int) ≤ (at_ : Int) + (q : Int) := by omega
          have hn1 : (at_ : Int) + (q : Int) < (Lf.length : Int) := by omega
          have hnn : ((at_ : Int) + (q : Int)).toNat = at_ + q := by omega
          clear hM hc hr ho hf hs hz hy2
          go_wp2_with fail
          go_region_law (first | (go_simp; go_at_call 47; (with_reducible refine HM.out.mono ?_); rintro e w' ⟨rfl, nd, rfl⟩))
          all_goals
            go_wp2_with fail
            have hrow := RowF.set (HRR.out.drewN (1 + nd)) (at_ + q) (by rw [HMl.out]; exact hkm) (y2 ^^^ z)
            rw [← u8_xor] at hrow
            have hsmG : Same [G] wr ((wr.drewN (1 + nd)).setCell ⟨G, at_ + q, none⟩ (.int .u8 (bits .xor .u8 (y2.toNat : Int) (z.toNat : Int)))) := ((Same.refl _ wr).drewN _).setCell (fun _ => by simp) _
            go_roundw
            case rel =>
              refine ⟨q + 1, M.set (at_ + q) (y2 ^^^ z), by omega, by go_num, by rw [List.length_set]; exact HMl.out, ?_, hrow, HOO.out.same hsmG (fun k hk => by have := (HOO.out.lt k hk).1; simp; omega), Nat.le_trans hgz hsmG.size, HFF.out.same hsmG (by simp; omega), HSS.out.trans hsmG (fun k hk hlt2 => by simp at hk; have := HB.out; omega)⟩
              funext j
              rw [cf_set (by rw [HMl.out]; exact hkm), padK_succ, ← HCC.out, ← HZ.out]
              split
              · rename_i e; rw [e, HY2.out]
              · rfl
            case measure => simp [intOf]; omega
        · obtain rfl : q = t.size := by omega
          have h1i : ¬ (t.size : Int) < (t.size : Int) := by omega
          rw [← lb_length, List.take_length] at hc
          have HC2 := Lib.hid hc
          have hcut := hr.cut (Lf.length - 1) (by omega)
          have hstep := DivI.step (x := x) (lead := lead) HI.out (by rw [lb_length]; omega) (by rw [lb_length]; have := HKN.out; omega) HX.out HL1.out hM (by rw [lb_length, ← HAT.out]; exact hc)
          have hlt2 : (M.take (Lf.length - 1)).length = Lf.length - 1 := by rw [List.length_take, hM]; omega
          have HCUT := Lib.hid hcut; have HST := Lib.hid hstep; have HL2 := Lib.hid hlt2
          have hcapi : (Lf.length : Int) - 1 ≤ (cap : Int) := by omega
          have hcapn : Lf.length - 1 ≤ cap := by omega
          clear hM hc hr ho hf hs hcut hstep hlt2
          go_wp2_with fail
          go_step3
          refine ⟨rfl, ⟨G, hlt, M.take (Lf.length - 1), O ++ [x], _, _, _, _, _, _, _, _, _, _, _, _, _, _, _, _, _, _, _, _, _, _, _, _, _, _, _, _, _, _, _, _, _, _, _, _, _, _, _, _, _, _, _, _, _, _, _, _, _, _, _, _, _, _, _, _, _, _, _, _, _, _, _, _, _, _, _, _, _, _, _, _, _, _, _, _, HST.out, ?_, HCUT.out, HOO.out, hgz, HFF.out, HSS.out, rfl⟩, ?_⟩
          · rw [HL2.out, List.length_append, List.length_singleton]; have := HN.out; omega
          · show lenV (.slice (some ⟨G, 0, none⟩) (Lf.length - 1) cap) < lenV (.slice (some ⟨G, 0, none⟩) Lf.length cap)
            simp only [lenV]; omega
end Go.Proofs.YtollgkmgooancaaDoor
