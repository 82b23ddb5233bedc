/- The walk of the law BitsBack: whatever calls, it answers true. No condition. -/
import Derived.Test.YtlaafjdlmocfnaaBitsWrites
import Derived.Test.YtlaafjdlmocfnaaBitsStep
import Derived.Deep.RegionWith
namespace Go.Proofs.Ytlaafjdlmocfnaa
open Go.RowKit
set_option linter.unusedSimpArgs false
set_option linter.unusedVariables false

theorem bitsTo_parts (ops : List OpD) (k : Nat) (h : k < ops.length) : ∃ post, bitsTo ops ops.length = bitsTo ops k ++ (opBits ops[k] ++ post) := by
  unfold bitsTo
  rw [List.take_length]
  refine ⟨(ops.drop (k + 1)).flatMap opBits, ?_⟩
  rw [← List.flatMap_cons, ← List.flatMap_append]
  congr 1
  rw [List.getElem_cons_drop, List.take_append_drop]
theorem opBits_text {o : OpD} (h : o.t = true) : opBits o = ofStr o.s := by unfold opBits; rw [h]; rfl
theorem opBits_num {o : OpD} (h : o.t = false) (h0 : 0 ≤ o.n) (h1 : o.n ≤ 64) : opBits o = bitsOf o.x.toNat o.n.toNat := by unfold opBits; rw [h, if_neg (by decide), if_pos ⟨h0, h1⟩]
theorem opBits_bad {o : OpD} (h : o.t = false) (h0 : o.n < 0 ∨ 64 < o.n) : opBits o = [] := by unfold opBits; rw [h, if_neg (by decide), if_neg (by omega)]

theorem bitsBack_many (v : Value) (ops : List OpD) (w : World) (h : OpsAt w v ops) (hf : fewB ops = false) :
    Calls Try.prog 6 #[v] w (AwakePost w) := by
  have H := Lib.hid h
  clear h
  go_enter Try.func6, Try.ntmps6
  go_wp2_with (first | (go_at_call 9; refine (few_any _ _ _ H.out).mono ?_; rintro e w' ⟨rfl, rfl⟩) | (go_at_call 10; refine (awake_any _).mono ?_; rintro e w' ⟨rfl, hs⟩; have HS := Lib.hid hs; clear hs))
  go_ret
  exact ⟨rfl, HS.out⟩

/-- The reader of what was written, and the writer, behind w. -/
structure BackI (w W : World) (a r : Nat) (ra : Option Nat) (la : List Bool) (A : ByteArray) (p : Nat) : Prop where
  rd : IsIn W r p 0 A
  out : IsOut W a ra la
  same : Same [] w W
  hr : w.heap.size ≤ r
  ne : a ≠ r
  nr : ∀ k, ra = some k → k ≠ r
theorem BackI.read {w W W1 : World} {a r : Nat} {ra : Option Nat} {la : List Bool} {A : ByteArray} {p p' : Nat} (h : BackI w W a r ra la A p) (h1 : IsIn W1 r p' 0 A) (h2 : Same [r] W W1) : BackI w W1 a r ra la A p' :=
  ⟨h1, h.out.same h2 (by simp; exact h.ne) (fun k hk => by simp; exact h.nr k hk), h.same.trans h2 (fun x hx hlt => by simp at hx; have := h.hr; omega), h.hr, h.ne, h.nr⟩
theorem BackI.quiet {w W W1 : World} {a r : Nat} {ra : Option Nat} {la : List Bool} {A : ByteArray} {p : Nat} (h : BackI w W a r ra la A p) (h2 : Same [] W W1) : BackI w W1 a r ra la A p :=
  ⟨h.rd.same h2 (by simp), h.out.same h2 (by simp) (fun k _ => by simp), h.same.trans_nil h2, h.hr, h.ne, h.nr⟩

theorem op_box (w : World) (o : OpD) : (w.alloc (.cells #[.bool o.t, .int .u64 o.x, .int .i64 o.n, .string o.s] 34)).heap[w.heap.size]? = some (.cells #[.bool o.t, .int .u64 o.x, .int .i64 o.n, .string o.s] 34 (0, 0)) := World.alloc_heap_new _ _
theorem cells4' {W : World} {c : Nat} {e : TypeId} {x0 x1 x2 x3 : Value} (h : W.heap[c]? = some (.cells #[x0, x1, x2, x3] e (0, 0))) :
    W.cell? ⟨c, 0, none⟩ = some x0 ∧ W.cell? ⟨c, 1, none⟩ = some x1 ∧ W.cell? ⟨c, 2, none⟩ = some x2 ∧ W.cell? ⟨c, 3, none⟩ = some x3 ∧
    W.frozen? ⟨c, 0, none⟩ = false ∧ W.frozen? ⟨c, 1, none⟩ = false ∧ W.frozen? ⟨c, 2, none⟩ = false ∧ W.frozen? ⟨c, 3, none⟩ = false :=
  ⟨by rw [cell_of h]; rfl, by rw [cell_of h]; rfl, by rw [cell_of h]; rfl, by rw [cell_of h]; rfl, free_of h 0, free_of h 1, free_of h 2, free_of h 3⟩

set_option maxHeartbeats 4000000 in
set_option maxRecDepth 100000 in
theorem bitsBack_few (v : Value) (ops : List OpD) (w : World) (h : OpsAt w v ops) (hf : fewB ops = true) :
    Calls Try.prog 6 #[v] w (AwakePost w) := by
  have H := Lib.hid h
  have FF := Lib.hid (few_of hf)
  have HFB := Lib.hid hf
  obtain ⟨ad, c, rfl, hlc, hcm, _⟩ := h
  have hn60 := FF.out.1
  unfold maxLen at hcm
  have hnew := isOut_new w
  obtain ⟨w1, hw1⟩ : ∃ w1, w1 = w.alloc (.cells #[.slice none 0 0, .int .i64 0] 27) := ⟨_, rfl⟩
  rw [← hw1] at hnew
  have HN := Lib.hid (show OutStep w1 w.heap.size none (bitsTo ops 0) w1 by rw [show bitsTo ops 0 = [] by simp [bitsTo]]; exact hnew)
  have HS0 := Lib.hid (show Same [] w w1 by rw [hw1]; exact (Same.refl _ w).alloc _)
  have HSZ := Lib.hid (show w1.heap.size = w.heap.size + 1 by rw [hw1]; simp)
  have HW := Lib.hid hw1
  clear hnew hw1
  go_enter Try.func6, Try.ntmps6
  go_wp2_with (go_at_call 9; refine (few_any _ _ _ H.out).mono ?_; rintro e w' ⟨rfl, rfl⟩)
  rw [← HW.out]
  clear hf
  go_loopw [4] (fun i wr => ∃ k : Nat, k ≤ ops.length ∧ i = .int .i64 k ∧ OutStep w1 w.heap.size none (bitsTo ops k) wr) (fun i _ => ops.length - (intOf i).toNat)
  case atStart => exact ⟨0, Nat.zero_le _, rfl, HN.out⟩
  case round =>
    obtain ⟨k, hk, rfl, hst⟩ := hrel
    have HST := Lib.hid hst
    clear hst
    have hsw : Same [] w wr := by
      obtain ⟨r', _, hs, _⟩ := HST.out
      exact HS0.out.trans hs (fun y hy hlt => by simp at hy; omega)
    have HSW := Lib.hid hsw
    clear hsw
    by_cases hlt : k < ops.length
    · obtain ⟨ad', c', hv', _, _, hcells⟩ := ops_cells H.out HSW.out
      cases hv'
      obtain ⟨a, rfl, hsp, hok, k0, k1, k2, k3⟩ := hcells k hlt
      obtain ⟨g, o, sp⟩ := a
      simp only at hsp; subst hsp
      have hss := FF.out.2 k hlt
      have hbl := length_bitsTo ops HFB.out k hk
      have hbs := bitsTo_succ ops k hlt
      have HBS := Lib.hid hbs; have HOK := Lib.hid hok; have HSS := Lib.hid hss
      clear hbs hok hss hcells
      generalize hop : ops[k] = op at *
      clear hop
      go_wp2_with fail
      refine (write_ok w1 w.heap.size none (bitsTo ops k) op wr HST.out HOK.out HSS.out (by omega)).mono ?_
      rintro e w2 ⟨rfl, hst2⟩
      rw [← HBS.out] at hst2
      have HST2 := Lib.hid hst2
      clear hst2 k0 k1 k2 k3
      go_wp2_with fail
      go_roundw
      case rel => exact ⟨k + 1, by omega, by go_num, HST2.out⟩
      case measure => simp [intOf]; omega
    · obtain rfl : k = ops.length := by omega
      have hbl := length_bitsTo ops HFB.out ops.length hk
      obtain ⟨la, hla⟩ : ∃ la, la = bitsTo ops ops.length := ⟨_, rfl⟩
      have hst := HST.out
      rw [← hla] at hst hbl
      obtain ⟨ra, hoA, hsA, hrA⟩ := hst
      have hb3 := hoA.lt
      have hl3 : (strOf (pack la)).size = (la.length + 7) / 8 := size_pack la
      obtain ⟨A, hA⟩ : ∃ A, A = strOf (pack la) := ⟨_, rfl⟩
      rw [← hA] at hl3
      have HLA := Lib.hid hla; have HOA := Lib.hid hoA; have HB3 := Lib.hid hb3; have HA := Lib.hid hA; have HL3 := Lib.hid hl3
      have hA8 : A.size ≤ 3600 := by omega
      clear hla hoA hsA hrA hb3 hA hl3 HST
      go_wp2_with fail
      refine (out_string _ ra la wr HOA.out (by omega)).mono ?_
      rintro e w' ⟨rfl, rfl⟩
      rw [← HA.out]
      go_wp2_with fail
      refine (read_any _ _).mono ?_
      rintro e w4 ⟨rfl, rfl⟩
      have hB : BackI w (wr.alloc (.cells #[.int .i64 0, .int .i64 0, .string A] 57)) w.heap.size wr.heap.size ra la A 0 :=
        ⟨isIn_new wr A, HOA.out.same ((Same.refl [] wr).alloc _) (by simp) (fun k _ => by simp), HSW.out.alloc _, HSW.out.size, by have := HB3.out.1; omega, fun k hk => by have := HB3.out.2 k hk; omega⟩
      have HB := Lib.hid (show BackI w _ w.heap.size wr.heap.size ra la A (bitsTo ops 0).length by rw [show bitsTo ops 0 = [] by simp [bitsTo]]; exact hB)
      have hL3 := HL3.out
      clear hB HOA HSW HB3
      generalize wr.alloc (.cells #[.int .i64 0, .int .i64 0, .string A] 57) = W4 at *
      generalize wr.heap.size = r at *
      clear hL3
      obtain ⟨wo, rfl⟩ : ∃ wo : World, wo = wr := ⟨_, rfl⟩
      go_wp2_with fail
      go_loopw [6, 7, 8, 9, 10] (fun i _ _ _ _ wr => ∃ j : Nat, j ≤ ops.length ∧ i = .int .i64 j ∧ BackI w wr w.heap.size r ra la A (bitsTo ops j).length) (fun i _ _ _ _ _ => ops.length - (intOf i).toNat)
      case atStart => exact ⟨0, Nat.zero_le _, rfl, HB.out⟩
      case round =>
        obtain ⟨j, hj, rfl, hin⟩ := hrel
        have HI := Lib.hid hin
        clear hin HB
        by_cases hlj : j < ops.length
        · obtain ⟨ad', c', hv', _, _, hcells⟩ := ops_cells H.out HI.out.same
          cases hv'
          obtain ⟨a, rfl, hsp, hok, k0, k1, k2, k3⟩ := hcells j hlj
          obtain ⟨g, o, sp⟩ := a
          simp only at hsp; subst hsp
          have hss := FF.out.2 j hlj
          obtain ⟨post, hpost⟩ := bitsTo_parts ops j hlj
          have hbs := bitsTo_succ ops j hlj
          have hbz := congrArg List.length hbs
          have hpz := congrArg List.length hpost
          rw [← HLA.out] at hpost hpz
          rw [List.length_append] at hbz
          rw [List.length_append, List.length_append] at hpz
          clear hcells
          generalize hop : ops[j] = op at *
          have HP := Lib.hid hpost; have HBZ := Lib.hid hbz; have HPZ := Lib.hid hpz; have HOK := Lib.hid hok
          clear hpost hbs hbz hpz hop hok
          obtain ⟨pre, hpre⟩ : ∃ pre, pre = bitsTo ops j := ⟨_, rfl⟩
          rw [← hpre] at HP HBZ HPZ HI
          clear hpre
          have hbox := op_box wr op
          have HI1 := Lib.hid (HI.out.quiet ((Same.refl [] wr).alloc (.cells #[.bool op.t, .int .u64 op.x, .int .i64 op.n, .string op.s] 34)))
          have hrc : r ≠ wr.heap.size := by have := heap_lt HI.out.rd; omega
          obtain ⟨W5, hW5⟩ : ∃ W5, W5 = wr.alloc (.cells #[.bool op.t, .int .u64 op.x, .int .i64 op.n, .string op.s] 34) := ⟨_, rfl⟩
          rw [← hW5] at hbox HI1
          have HW5 := Lib.hid hW5
          have HBOX := Lib.hid hbox
          clear hW5 hbox HI
          have hcs : op.t = true ∨ (op.t = false ∧ op.n < 0) ∨ (op.t = false ∧ 0 ≤ op.n ∧ 64 < op.n) ∨ (op.t = false ∧ 0 ≤ op.n ∧ op.n < 64) ∨ (op.t = false ∧ op.n = 64) := by
            cases op.t <;> simp <;> omega
          rcases hcs with ht | ⟨ht, hn⟩ | ⟨ht, hn, hn2⟩ | ⟨ht, hn, hn2⟩ | ⟨ht, hn⟩
          · have hob := opBits_text ht
            rw [hob] at HP HBZ HPZ
            have hT : strOf (textFrom A pre.length op.s.size) = op.s := by rw [HA.out, HP.out]; exact text_back pre post op.s
            have hlen := length_ofStr op.s
            have hsf := bytes_eqself op.s
            have hle : pre.length + 8 * op.s.size ≤ 8 * A.size := by have h1 := HPZ.out; have h2 := HL3.out; omega
            have hnx : pre.length + 8 * op.s.size = (bitsTo ops (j + 1)).length := by have h1 := HBZ.out; omega
            have hct := fun W hh => rtext_ok r pre.length op.s.size A W hh (by omega) hle
            rw [hT, hnx] at hct
            have HCT := Lib.hid hct
            clear hob hT hlen hle hnx hct
            rw [ht] at k0
            go_wp2_with fail
            rw [ht] at HW5 HBOX
            rw [← HW5.out]
            obtain ⟨x0, x1, x2, x3, y0, y1, y2, y3⟩ := cells4' HBOX.out
            generalize wr.heap.size = c at *
            go_region_with (go_at_call 19; refine (HCT.out _ (by exact HI1.out.rd)).mono ?_; rintro e w6 ⟨rfl, i6, s6⟩; have b6 := s6.heap (show W5.drew.heap[c]? = _ from HBOX.out) (by simp; omega); obtain ⟨z0, z1, z2, z3, v0, v1, v2, v3⟩ := cells4' b6; have I6 := Lib.hid ((HI1.out.quiet (Same.refl [] W5).drew).read i6 s6); clear i6 s6 b6)
            all_goals go_wp2
            all_goals go_roundw
            all_goals first
              | exact ⟨j + 1, by omega, by go_num, I6.out⟩
              | (simp [intOf]; omega)
          · have hob := opBits_bad ht (.inl hn)
            rw [hob] at HBZ
            have hnx : pre.length = (bitsTo ops (j + 1)).length := by have h1 := HBZ.out; simp at h1; omega
            rw [hnx] at HI1
            rw [ht] at k0
            clear hob hnx
            go_wp2_with fail
            go_roundw
            case rel => exact ⟨j + 1, by omega, by go_num, by rw [ht] at HW5; rw [← HW5.out]; exact HI1.out⟩
            case measure => simp [intOf]; omega
          · have hob := opBits_bad ht (.inr hn2)
            rw [hob] at HBZ
            have hnx : pre.length = (bitsTo ops (j + 1)).length := by have h1 := HBZ.out; simp at h1; omega
            rw [hnx] at HI1
            rw [ht] at k0
            clear hob hnx
            go_wp2_with fail
            go_roundw
            case rel => exact ⟨j + 1, by omega, by go_num, by rw [ht] at HW5; rw [← HW5.out]; exact HI1.out⟩
            case measure => simp [intOf]; omega
          · have hob := opBits_num ht hn (by omega)
            rw [hob] at HP HBZ HPZ
            have hlen := length_bitsOf op.x.toNat op.n.toNat
            have hx := HOK.out
            obtain ⟨V, hV⟩ : ∃ V, V = numFrom A pre.length op.n.toNat := ⟨_, rfl⟩
            have hV2 : V = op.x.toNat % 2 ^ op.n.toNat := by rw [hV, HA.out, HP.out]; exact num_back pre post _ _
            have hle : pre.length + op.n.toNat ≤ 8 * A.size := by have h1 := HPZ.out; have h2 := HL3.out; omega
            have hnx : pre.length + op.n.toNat = (bitsTo ops (j + 1)).length := by have h1 := HBZ.out; omega
            have hct := fun W hh => get_at r pre.length op.n.toNat A op.n W hh (by omega) (by omega) hle (by omega)
            rw [← hV, hnx] at hct
            have HCT := Lib.hid hct
            have hpos := Nat.two_pow_pos op.n.toNat
            have hple : 2 ^ op.n.toNat ≤ 2 ^ 63 := Nat.pow_le_pow_right (by omega) (by omega)
            have hVx : ((V : Int) != op.x % ((2 ^ op.n.toNat : Nat) : Int)) = false := by
              have h0 : op.x = ((op.x.toNat : Nat) : Int) := by have := hx.1; omega
              rw [bne_eq_false_iff_eq, hV2, h0, Int.toNat_natCast]; exact Int.natCast_emod _ _
            have hVl : V < 9223372036854775808 := by rw [hV2]; have := Nat.mod_lt op.x.toNat hpos; omega
            have hx0 := hx.1
            have hx1 := hx.2
            have HVX := Lib.hid hVx; have HPO := Lib.hid hpos; have HPL := Lib.hid hple
            clear hob hlen hx hV hV2 hle hnx hct hVx hpos hple
            rw [ht] at k0
            go_wp2_with fail
            rw [ht] at HW5 HBOX
            rw [← HW5.out]
            obtain ⟨x0, x1, x2, x3, y0, y1, y2, y3⟩ := cells4' HBOX.out
            generalize wr.heap.size = c at *
            go_wp2_with fail
            refine (HCT.out _ HI1.out.rd).mono ?_
            rintro e w6 ⟨rfl, i6, s6⟩
            have b6 := s6.heap HBOX.out (by simp; omega)
            have I6 := Lib.hid (HI1.out.read i6 s6)
            clear x0 x1 x2 x3 y0 y1 y2 y3 i6 s6 k0 k1 k2 k3
            obtain ⟨x0, x1, x2, x3, y0, y1, y2, y3⟩ := cells4' b6
            clear b6
            go_wp2_with fail
            go_loop [9, 10] (fun un kk => ∃ k : Nat, k ≤ op.n.toNat ∧ kk = .int .i64 k ∧ un = .int .u64 (2 ^ k : Nat)) (fun _ kk => op.n.toNat - (intOf kk).toNat)
            case atStart => exact ⟨0, by omega, rfl, rfl⟩
            case round =>
              obtain ⟨k, hk, rfl, rfl⟩ := hrel
              by_cases hkl : (k : Int) < op.n
              · have hp1 : 2 ^ (k + 1) = 2 * 2 ^ k := by rw [Nat.pow_succ, Nat.mul_comm]
                have hp2 : 2 ^ (k + 1) ≤ 2 ^ 63 := Nat.pow_le_pow_right (by omega) (by omega)
                rw [hp1] at hp2
                have HP1 := Lib.hid hp1
                clear hp1
                generalize 2 ^ k = U at *
                have hp3 : 2 * U < 18446744073709551616 := by omega
                clear hp2
                go_wp2
                go_round
                case rel => exact ⟨k + 1, by omega, by go_num, by rw [HP1.out]; go_num⟩
                case measure => simp [intOf]; omega
              · obtain rfl : k = op.n.toNat := by omega
                have hvx := HVX.out
                have hpo := HPO.out
                have hpl := HPL.out
                generalize 2 ^ op.n.toNat = U at *
                have hU : U < 18446744073709551616 := by omega
                clear hpl
                go_wp2
                go_roundw
                case rel => exact ⟨j + 1, by omega, by go_num, I6.out⟩
                case measure => simp [intOf]; omega
          · have hob := opBits_num ht (by omega) (by omega)
            rw [hob] at HP HBZ HPZ
            have hlen := length_bitsOf op.x.toNat op.n.toNat
            have hx := HOK.out
            obtain ⟨V, hV⟩ : ∃ V, V = numFrom A pre.length op.n.toNat := ⟨_, rfl⟩
            have hV2 : V = op.x.toNat % 2 ^ op.n.toNat := by rw [hV, HA.out, HP.out]; exact num_back pre post _ _
            have hle : pre.length + op.n.toNat ≤ 8 * A.size := by have h1 := HPZ.out; have h2 := HL3.out; omega
            have hnx : pre.length + op.n.toNat = (bitsTo ops (j + 1)).length := by have h1 := HBZ.out; omega
            have hct := fun W hh => get_at r pre.length op.n.toNat A op.n W hh (by omega) (by omega) hle (by omega)
            rw [← hV, hnx] at hct
            have HCT := Lib.hid hct
            have hVx : ((V : Int) != op.x) = false := by
              have h0 : op.x = ((op.x.toNat : Nat) : Int) := by have := hx.1; omega
              have h1 : op.n.toNat = 64 := by omega
              rw [bne_eq_false_iff_eq, hV2, h0, Int.toNat_natCast, h1, Nat.mod_eq_of_lt (by have := hx.2; omega)]
            have hx0 := hx.1
            have hx1 := hx.2
            have hVl : V < 18446744073709551616 := by rw [bne_eq_false_iff_eq] at hVx; omega
            have n1 : 64 ≤ op.n := by omega
            have n2 : op.n ≤ 64 := by omega
            have n3 : (op.n == 64) = true := by rw [beq_iff_eq]; exact hn
            have HVX := Lib.hid hVx
            clear hob hlen hx hV hV2 hle hnx hct hVx hn
            rw [ht] at k0
            go_wp2_with fail
            rw [ht] at HW5 HBOX
            rw [← HW5.out]
            obtain ⟨x0, x1, x2, x3, y0, y1, y2, y3⟩ := cells4' HBOX.out
            generalize wr.heap.size = c at *
            go_wp2_with fail
            refine (HCT.out _ HI1.out.rd).mono ?_
            rintro e w6 ⟨rfl, i6, s6⟩
            have b6 := s6.heap HBOX.out (by simp; omega)
            have I6 := Lib.hid (HI1.out.read i6 s6)
            clear x0 x1 x2 x3 y0 y1 y2 y3 i6 s6 k0 k1 k2 k3
            obtain ⟨x0, x1, x2, x3, y0, y1, y2, y3⟩ := cells4' b6
            clear b6
            go_wp2_with fail
            go_loop [9, 10] (fun un kk => kk = .int .i64 0 ∧ un = .int .u64 1) (fun _ kk => 0)
            case atStart => exact ⟨rfl, rfl⟩
            case round =>
              obtain ⟨rfl, rfl⟩ := hrel
              have hvx := HVX.out
              go_wp2
              go_roundw
              case rel => exact ⟨j + 1, by omega, by go_num, I6.out⟩
              case measure => simp [intOf]; omega
        · obtain rfl : j = ops.length := by omega
          have hi := HI.out
          rw [← HLA.out] at hi
          have hL3 := HL3.out
          have hD0 : 0 ≤ (A.size : Int) * 8 - (la.length : Int) := by omega
          have hD1 : (A.size : Int) * 8 - (la.length : Int) < 8 := by omega
          have hrest : numFrom A la.length ((A.size : Int) * 8 - (la.length : Int)).toNat = 0 := by
            rw [HA.out]; exact rest_back la _ (by rw [← HA.out]; omega)
          have hct := fun W hh => get_at r la.length ((A.size : Int) * 8 - (la.length : Int)).toNat A ((A.size : Int) * 8 - (la.length : Int)) W hh (by omega) (by omega) (by omega) (by omega)
          rw [hrest] at hct
          have HCT := Lib.hid hct
          have HII := Lib.hid hi
          clear hct hrest hi hL3
          have hct2 := fun W hh => left_ok r la.length 0 A W hh (by omega) (by omega)
          generalize hDD : (A.size : Int) * 8 - (la.length : Int) = D at *
          have HL := Lib.hid hct2
          clear hct2 hDD
          go_wp2_with (first
            | (go_at_call 22; refine (HL.out _ HII.out.rd).mono ?_; rintro e w6 ⟨rfl, rfl⟩)
            | (go_at_call 23; refine (err_ok r _ 0 A _ (by first | exact HII.out.rd | exact IG.out.rd)).mono ?_; rintro e w6 ⟨rfl, rfl⟩)
            | (go_at_call 21; refine (at_ok r la.length 0 A _ HII.out.rd).mono ?_; rintro e w6 ⟨rfl, rfl⟩)
            | (go_at_call 13; refine (len_ok _ ra la _ HII.out.out).mono ?_; rintro e w6 ⟨rfl, rfl⟩)
            | (go_at_call 20; refine (HCT.out _ HII.out.rd).mono ?_; rintro e w7 ⟨rfl, i7, s7⟩; have IG := Lib.hid (HII.out.read i7 s7); clear i7 s7)
            | (go_at_call 10; refine (awake_any _).mono ?_; rintro e w' ⟨rfl, hs⟩; have HS := Lib.hid hs; clear hs))
          go_ret
          exact ⟨rfl, IG.out.same.trans_nil HS.out⟩

theorem bitsBack_any (v : Value) (ops : List OpD) {w : World} (h : OpsAt w v ops) :
    Calls Try.prog 6 #[v] w (AwakePost w) := by
  cases hf : fewB ops with
  | true => exact bitsBack_few v ops w h hf
  | false => exact bitsBack_many v ops w h hf

end Go.Proofs.Ytlaafjdlmocfnaa
