/- The walk of the law RsLinear: sums and multiples of words are words. No condition. -/
import Derived.Test.YtollgkmgooancaaDoorRs6
import Derived.Deep.RegionLaw
namespace Go.Proofs.YtollgkmgooancaaDoor
open Go.RowKit
set_option linter.unusedSimpArgs false
set_option linter.unusedVariables false

section
variable {P : Program} {w : World}
/-- append, as one step of a region that draws its order. -/
theorem step_append_src {ops : Array Oper} {o : Oper} {a : Act} {K : Act → World → Prop} {Q : Exit → Act → World → Prop} {E : Prop}
    (hg : o.guard = none) (s x : Operand) (t : TypeId) (hop : o.op = Op.call { callee := Callee.builtin Builtin.append, args := #[s, x], argTypes := #[t, t] })
    (base : Nat) (e : TypeId) (i : TypeInfo) (z : Value) (size bytes : Nat) (ht : P.underlying t = some (.slice e)) (hi : P.info? e = some i) (hz : i.zero = some z)
    (hsize : i.size = size) (hby : i.bytes = bytes) (hzs : z.cells.size = size) (hsz : 0 < size)
    (v : Value) (n : Nat) (xs : List Value) (hs : a.eval s = v) (hown : w.ownsRow base e size v n xs)
    (sv : Value) (m : Nat) (ys : List Value) (hx : a.eval x = sv) (hr : Reads w size sv m ys) (h1 : ∀ u ∈ ys, u.oneCell' = true)
    (h63 : n + m ≤ maxLen) (hbytes : (n + m) * bytes ≤ 140737488355328) (hbase : base ≤ w.heap.size)
    (hK : ∀ v' w', w'.ownsRow base e size v' (n + m) (xs ++ ys) → w.grownBy w' v.ownBlock → (v'.ownBlock = v.ownBlock ∨ v'.ownBlock = some w.heap.size) → K (a.put o.dst v') w') :
    if Region.wanted o (yielded ops a.tmps) = true then Oper.wp P o a w K Q else E := by
  have hw : Region.wanted o (yielded ops a.tmps) = true := by simp [Region.wanted, hg]
  rw [if_pos hw]
  obtain ⟨v', w', hrun, h2, h3, h5⟩ := run_append_src (P := P) base t o.type e i z size bytes ht hi hz hsize hby hzs hsz v n xs hown sv m ys hr h1 h63 hbytes hbase
  unfold Oper.wp
  simp only [execOp, hop, resolve, invoke, builtin, Sem.run_bind, Sem.run_pure, Result.andThen_ok, List.map_toArray, List.map_cons, List.map_nil, hs, hx, hrun]
  exact hK v' w' h2 h3 h5
end
def Apart (v1 v2 : Value) : Prop := ∀ k, v1.ownBlock = some k → v2.ownBlock ≠ some k
theorem Apart.symm {v1 v2 : Value} (h : Apart v1 v2) : Apart v2 v1 := fun k hk h2 => h k h2 hk
/-- One of two rows that lie apart has grown. -/
theorem grow_apart {B : Nat} {w wr w2 : World} {v v' u : Value} {l m lu : List UInt8} (ho : OwnB B wr v l) (hB : w.heap.size ≤ B) (hs : Same [] w wr)
    (hown : w2.ownsRow B 5 1 v' (l.length + m.length) (u8l l ++ u8l m)) (hg : wr.grownBy w2 v.ownBlock) (hat : v'.ownBlock = v.ownBlock ∨ v'.ownBlock = some wr.heap.size)
    (hu : OwnB B wr u lu) (ha : Apart v u) : OwnB B w2 v' (l ++ m) ∧ Same [] w w2 ∧ OwnB B w2 u lu ∧ Apart v' u := by
  obtain ⟨q1, q2⟩ := OwnB.grow ho hB hs hown hg
  refine ⟨q1, q2, hu.same (Same.of_grown hg) fun k hk hm => ha k (by simpa using hm) hk, fun k hk hk2 => ?_⟩
  rcases hat with h | h
  · exact ha k (by rw [← h]; exact hk) hk2
  · have := (hu.lt k hk2).2
    rw [h] at hk
    injection hk with hk
    omega

set_option maxRecDepth 100000 in
set_option maxHeartbeats 16000000 in
theorem rsLinear_any (a b : ByteArray) (x : UInt8) (w : World) : Calls Tryd.prog 10 #[.string a, .string b, .int .u8 (x.toNat : Int)] w (Ret (.bool true) w) := by
  have HS := Lib.hid (Same.refl [] w)
  have CA := Lib.hid (fun W => awake03_any W)
  by_cases h1 : a.size ≤ 191
  · have h1i : ¬ (191 : Int) < (a.size : Int) := by omega
    by_cases h2 : b.size ≤ 191
    · have h2i : ¬ (191 : Int) < (b.size : Int) := by omega
      obtain ⟨i0, hi, hz0, hz1, hz2⟩ := info_parts Tryd.infoB
      obtain ⟨FA, hFA⟩ : ∃ F, F = fullS a 191 := ⟨_, rfl⟩
      obtain ⟨FB, hFB⟩ : ∃ F, F = fullS b 191 := ⟨_, rfl⟩
      have hA9 : FA.size = 191 := by rw [hFA]; exact fullS_size a 191
      have hB9 : FB.size = 191 := by rw [hFB]; exact fullS_size b 191
      have C1 := Lib.hid (fun W => by have h9 := full191 a W (by omega); rw [← hFA] at h9; exact h9)
      have C3 := Lib.hid (fun W => by have h9 := full191 b W (by omega); rw [← hFB] at h9; exact h9)
      obtain ⟨V, hV⟩ : ∃ V, V = wordS FA := ⟨_, rfl⟩
      obtain ⟨U, hU⟩ : ∃ U, U = wordS FB := ⟨_, rfl⟩
      have hVs : V.size = 255 := by rw [hV]; exact wordS_size FA hA9
      have hUs : U.size = 255 := by rw [hU]; exact wordS_size FB hB9
      have C2 := Lib.hid (fun W => by have h9 := word_ok FA W hA9; rw [← hV] at h9; exact h9)
      have C4 := Lib.hid (fun W => by have h9 := word_ok FB W hB9; rw [← hU] at h9; exact h9)
      have hwV : IsW (lb V) := by rw [hV]; exact wordS_isW FA hA9
      have hwU : IsW (lb U) := by rw [hU]; exact wordS_isW FB hB9
      obtain ⟨f, hf⟩ : ∃ f : Nat → UInt8, f = fun i => cf (lb V) i ^^^ cf (lb U) i := ⟨_, rfl⟩
      obtain ⟨g, hg⟩ : ∃ g : Nat → UInt8, g = fun i => gm (cf (lb V) i) x := ⟨_, rfl⟩
      have K1 : isB (bs (ofF 255 f)) = true := isB_true.2 (by rw [lb_bs, hf]; exact word_xor hwV hwU)
      have K2 : isB (bs (ofF 255 g)) = true := isB_true.2 (by rw [lb_bs, hg]; exact word_mul hwV x)
      have hz3 : (bs (ofF 255 f)).size ≤ 9223372036854775807 := by rw [size_bs, ofF_length]; decide
      have hz4 : (bs (ofF 255 g)).size ≤ 9223372036854775807 := by rw [size_bs, ofF_length]; decide
      have C5 := Lib.hid (fun W => by have h9 := is_any (bs (ofF 255 f)) W hz3; rw [K1] at h9; exact h9)
      have C6 := Lib.hid (fun W => by have h9 := is_any (bs (ofF 255 g)) W hz4; rw [K2] at h9; exact h9)
      have HF := Lib.hid hf; have HG := Lib.hid hg
      have hV' : (V.size : Int) = 255 := by omega
      have hU' : (U.size : Int) = 255 := by omega
      clear hFA hFB hV hU hwV hwU hf hg K1 K2 hz3 hz4 hA9 hB9 h1 h2
      go_enter Tryd.func10, Tryd.ntmps10
      go_wp2_with fail
      (with_reducible refine (C1.out _).mono ?_)
      rintro e w20 ⟨rfl, s20⟩
      replace HS := Lib.hid (show Same [] w w20 by first | exact HS.out.trans_nil s20 | exact (HS.out.alloc _).trans_nil s20 | exact ((HS.out.alloc _).alloc _).trans_nil s20 | exact (((HS.out.alloc _).alloc _).alloc _).trans_nil s20)
      clear s20
      go_wp2_with fail
      (with_reducible refine (C2.out _).mono ?_)
      rintro e w21 ⟨rfl, s21⟩
      replace HS := Lib.hid (show Same [] w w21 by first | exact HS.out.trans_nil s21 | exact (HS.out.alloc _).trans_nil s21 | exact ((HS.out.alloc _).alloc _).trans_nil s21 | exact (((HS.out.alloc _).alloc _).alloc _).trans_nil s21)
      clear s21
      go_wp2_with fail
      (with_reducible refine (C3.out _).mono ?_)
      rintro e w22 ⟨rfl, s22⟩
      replace HS := Lib.hid (show Same [] w w22 by first | exact HS.out.trans_nil s22 | exact (HS.out.alloc _).trans_nil s22 | exact ((HS.out.alloc _).alloc _).trans_nil s22 | exact (((HS.out.alloc _).alloc _).alloc _).trans_nil s22)
      clear s22
      go_wp2_with fail
      (with_reducible refine (C4.out _).mono ?_)
      rintro e w23 ⟨rfl, s23⟩
      replace HS := Lib.hid (show Same [] w w23 by first | exact HS.out.trans_nil s23 | exact (HS.out.alloc _).trans_nil s23 | exact ((HS.out.alloc _).alloc _).trans_nil s23 | exact (((HS.out.alloc _).alloc _).alloc _).trans_nil s23)
      clear s23
      obtain ⟨B, hB⟩ : ∃ B, B = w23.heap.size := ⟨_, rfl⟩
      have hwB : w.heap.size ≤ B := by rw [hB]; exact HS.out.size
      have HB := Lib.hid hB
      clear hB
      go_wp2_with fail
      go_loopw [13, 11, 12] (fun i v1 v2 wr => ∃ k : Nat, k ≤ 255 ∧ i = .int .i64 k ∧ OwnB B wr v1 (ofF k f) ∧ OwnB B wr v2 (ofF k g) ∧ Apart v1 v2 ∧ B ≤ wr.heap.size ∧ Same [] w wr) (fun i _ _ _ => 255 - (intOf i).toNat)
      case atStart => exact ⟨0, Nat.zero_le _, rfl, OwnB.nil _ _, OwnB.nil _ _, (fun k hk => by cases hk), by rw [HB.out]; exact Nat.le_refl _, HS.out⟩
      case round =>
        obtain ⟨k, hk, rfl, ho1, ho2, hap, hbw, hsm⟩ := hrel
        by_cases h1 : k < 255
        · have h1i : (k : Int) < 255 := by omega
          have hn1 : k < V.size := by omega
          have hn2 : k < U.size := by omega
          have hb1 := bt_at V k hn1
          have hb2 := bt_at U k hn2
          obtain ⟨p, hp⟩ : ∃ p, p = cf (lb V) k := ⟨_, rfl⟩
          obtain ⟨q, hq⟩ : ∃ q, q = cf (lb U) k := ⟨_, rfl⟩
          rw [← hp] at hb1
          rw [← hq] at hb2
          obtain ⟨z, hz⟩ : ∃ z, z = p ^^^ q := ⟨_, rfl⟩
          have hzx : bits .xor .u8 (p.toNat : Int) (q.toNat : Int) = (z.toNat : Int) := by rw [u8_xor, hz]
          obtain ⟨y, hy⟩ : ∃ y, y = gm p x := ⟨_, rfl⟩
          have CM := Lib.hid (fun W => rmul_z p x y W hy)
          have hfk : f k = z := by rw [HF.out, hz, hp, hq]
          have hgk : g k = y := by rw [HG.out, hy, hp]
          have e1 := ofF_succ k f
          have e2 := ofF_succ k g
          rw [hfk] at e1
          rw [hgk] at e2
          obtain ⟨L1, hL1⟩ : ∃ L, L = ofF k f := ⟨_, rfl⟩
          obtain ⟨L2, hL2⟩ : ∃ L, L = ofF k g := ⟨_, rfl⟩
          rw [← hL1] at ho1 e1
          rw [← hL2] at ho2 e2
          have l1 : L1.length = k := by rw [hL1]; exact ofF_length _ _
          have l2 : L2.length = k := by rw [hL2]; exact ofF_length _ _
          have m1 : L1.length + 1 ≤ maxLen := by rw [l1]; unfold maxLen; omega
          have m2 : L2.length + 1 ≤ maxLen := by rw [l2]; unfold maxLen; omega
          have n1 : (L1.length + 1) * 1 ≤ 140737488355328 := by rw [l1]; omega
          have n2 : (L2.length + 1) * 1 ≤ 140737488355328 := by rw [l2]; omega
          have HO1 := Lib.hid ho1; have HO2 := Lib.hid ho2; have HAP := Lib.hid hap; have HSM := Lib.hid hsm; have E1 := Lib.hid e1; have E2 := Lib.hid e2; have HBW := Lib.hid hbw
          clear ho1 ho2 hap hsm e1 e2 hL1 hL2 hp hq hz hy hfk hgk
          go_wp2_with fail
          go_region_law (refine step_append_src rfl (.tmp 55) (.tmp 63) 39 rfl B 5 i0 (.int .u8 0) 1 1 Tryd.underlying39 hi hz0 hz1 hz2 rfl (by decide) u11 L1.length (u8l L1) rfl (by exact own_same (S := []) HO1.out (by repeat (first | exact Same.refl _ _ | refine Same.drew ?_ | refine Same.alloc ?_ _)) (fun _ _ h => nomatch h)) _ 1 [.int .u8 (z.toNat : Int)] rfl (by exact reads_one _ z) (by exact one_u8l [z]) m1 n1 (by have := HBW.out; simp only [World.size_alloc, drew_heap]; omega) ?_; intro v' w4 hown hgrow hat)
          all_goals
            obtain ⟨q1, q2, q3, q4⟩ := grow_apart (w := w) (v := u11) (u := u12) (m := [z]) (by exact own_same (S := []) HO1.out (by repeat (first | exact Same.refl _ _ | refine Same.drew ?_ | refine Same.alloc ?_ _)) (fun _ _ h => nomatch h)) hwB (by repeat (first | exact HSM.out | refine Same.drew ?_ | refine Same.alloc ?_ _)) hown hgrow hat (by exact own_same (S := []) HO2.out (by repeat (first | exact Same.refl _ _ | refine Same.drew ?_ | refine Same.alloc ?_ _)) (fun _ _ h => nomatch h)) HAP.out
            rw [← E1.out] at q1
            have hbw4 : B ≤ w4.heap.size := by have := HBW.out; have h9 := hgrow.size; simp only [World.size_alloc, drew_heap] at h9; omega
            have Q1 := Lib.hid q1; have Q2 := Lib.hid q2; have Q3 := Lib.hid q3; have Q4 := Lib.hid q4; have HB4 := Lib.hid hbw4
            clear q1 q2 q3 q4 hown hgrow hat hbw4
            go_wp2_with fail
            (with_reducible refine (CM.out _).mono ?_)
            rintro e w' ⟨rfl, rfl⟩
            have hd := Q3.out.alloc (.cells #[.int .u8 (y.toNat : Int)] 5)
            have hbase : B ≤ (w4.alloc (.cells #[.int .u8 (y.toNat : Int)] 5)).heap.size := by have := HB4.out; simp only [World.size_alloc]; omega
            have HD := Lib.hid hd
            clear hd
            go_wp2_with (at_builtin; refine wpList_append_src rfl (.tmp 65) (.tmp 71) 39 rfl B 5 i0 (.int .u8 0) 1 1 Tryd.underlying39 hi hz0 hz1 hz2 rfl (by decide) u12 L2.length _ rfl HD.out _ 1 _ rfl (reads_one w4 y) (one_u8l [y]) m2 n2 hbase ?_; intro v2 w5 hown hgrow hat; have HOWN := Lib.hid hown; have HGW := Lib.hid hgrow; have HAT := Lib.hid hat; clear hown hgrow hat)
            obtain ⟨q1, q2, q3, q4⟩ := grow_apart (w := w) (v := u12) (u := v') (m := [y]) HD.out hwB (Q2.out.alloc _) HOWN.out HGW.out HAT.out (Q1.out.alloc _) Q4.out.symm
            rw [← E2.out] at q1
            have hbw5 : B ≤ w5.heap.size := by have := HB4.out; have h9 := HGW.out.size; simp only [World.size_alloc] at h9; omega
            go_roundw
            case rel => exact ⟨k + 1, by omega, by go_num, q3, q1, q4.symm, hbw5, q2⟩
            case measure => simp [intOf]; omega
        · obtain rfl : k = 255 := by omega
          have h1i : ¬ ((255 : Nat) : Int) < 255 := by omega
          have hcv := ho1.str
          have HO2 := Lib.hid ho2; have HSM := Lib.hid hsm
          clear ho1 ho2 hap hsm hbw h1
          go_wp2_with fail
          (with_reducible refine (C5.out _).mono ?_)
          rintro e w6 ⟨rfl, s6⟩
          have hcv2 := (HO2.out.same s6 (fun _ _ => by simp)).str
          replace HSM := Lib.hid (HSM.out.trans_nil s6)
          clear s6
          go_wp2_with fail
          (with_reducible refine (C6.out _).mono ?_)
          rintro e w7 ⟨rfl, s7⟩
          replace HSM := Lib.hid (HSM.out.trans_nil s7)
          clear s7
          go_wp2_with fail
          (with_reducible refine (CA.out _).mono ?_)
          rintro e w8 ⟨rfl, s8⟩
          replace HSM := Lib.hid (HSM.out.trans_nil s8)
          clear s8
          go_wp2_with fail
          go_ret
          exact ⟨rfl, HSM.out⟩
    · have h2i : (191 : Int) < (b.size : Int) := by omega
      go_enter Tryd.func10, Tryd.ntmps10
      go_wp2_with fail
      (with_reducible refine (CA.out _).mono ?_)
      rintro e w8 ⟨rfl, s8⟩
      go_wp2_with fail
      go_ret
      exact ⟨rfl, s8⟩
  · have h1i : (191 : Int) < (a.size : Int) := by omega
    go_enter Tryd.func10, Tryd.ntmps10
    go_wp2_with fail
    (with_reducible refine (CA.out _).mono ?_)
    rintro e w8 ⟨rfl, s8⟩
    go_wp2_with fail
    go_ret
    exact ⟨rfl, s8⟩
end Go.Proofs.YtollgkmgooancaaDoor
