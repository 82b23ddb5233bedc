/- The splitting of bytes into datagrams: what it answers. Condition: fewer than 2^40 bytes. -/
import Derived.Test.YteifbncgfopgfaaDgCheck
import Derived.Test.YteifbncgfopgfaaSlices
import Derived.Deep.RegionLaw
namespace Go.Proofs.Yteifbncgfopgfaa.Dg
open Go.RowKit
set_option linter.unusedSimpArgs false
set_option linter.unusedVariables false

/-- Where the first piece ends. -/
def cutAt (s : ByteArray) : Nat := if peekE s = 0 then min s.size (headOf s).l.toNat else s.size
def comb (L : List ByteArray) (r : List ByteArray × Int) : List ByteArray × Int := if r.2 ≠ 0 then ([], r.2) else (L ++ r.1, 0)
def splitG : Nat → ByteArray → List ByteArray × Int
  | 0, _ => ([], 0)
  | k + 1, s => if s.size = 0 then ([], 0) else if checkE (s.extract 0 (cutAt s)) ≠ 0 then ([], checkE (s.extract 0 (cutAt s))) else comb [s.extract 0 (cutAt s)] (splitG k (s.extract (cutAt s) s.size))
theorem comb_comb (L : List ByteArray) (p : ByteArray) (r : List ByteArray × Int) : comb L (comb [p] r) = comb (L ++ [p]) r := by
  unfold comb
  by_cases h : r.2 = 0
  · simp [h]
  · simp [h]
theorem comb_nil (r : List ByteArray × Int) (h : r.2 ≠ 0 → r.1 = []) : comb [] r = r := by
  unfold comb
  obtain ⟨l, e⟩ := r
  by_cases h0 : e = 0
  · simp [h0]
  · simp only at h; simp [h0, h h0]
theorem comb_err (L : List ByteArray) (r : List ByteArray × Int) : (comb L r).2 ≠ 0 → (comb L r).1 = [] := by
  unfold comb; intro h
  by_cases h0 : r.2 = 0
  · simp [h0] at h
  · simp [h0]
theorem splitG_err : ∀ (k : Nat) (s : ByteArray), (splitG k s).2 ≠ 0 → (splitG k s).1 = []
  | 0, s, h => absurd rfl h
  | k + 1, s, h => by
    unfold splitG at h ⊢
    by_cases h0 : s.size = 0
    · rw [if_pos h0] at h; exact absurd rfl h
    · rw [if_neg h0] at h ⊢
      by_cases h1 : checkE (s.extract 0 (cutAt s)) ≠ 0
      · rw [if_pos h1]
      · rw [if_neg h1] at h ⊢
        exact comb_err _ _ h
theorem splitG_none (k : Nat) (s : ByteArray) (h : s.size = 0) : splitG k s = ([], 0) := by
  cases k with
  | zero => rfl
  | succ k => unfold splitG; rw [if_pos h]
theorem splitG_bad (k : Nat) (s : ByteArray) (h : s.size ≠ 0) (h1 : checkE (s.extract 0 (cutAt s)) ≠ 0) (hk : s.size ≤ k) : splitG k s = ([], checkE (s.extract 0 (cutAt s))) := by
  cases k with
  | zero => omega
  | succ k => unfold splitG; rw [if_neg h, if_pos h1]
theorem splitG_good (k : Nat) (s : ByteArray) (h : s.size ≠ 0) (h1 : checkE (s.extract 0 (cutAt s)) = 0) : splitG (k + 1) s = comb [s.extract 0 (cutAt s)] (splitG k (s.extract (cutAt s) s.size)) := by
  rw [splitG, if_neg h, if_neg (by omega)]

theorem checkE_of_peek {s : ByteArray} (h : peekE s ≠ 0) : checkE s = peekE s := by unfold checkE; rw [if_pos h]
theorem extract_all (s : ByteArray) : s.extract 0 s.size = s := by
  apply ByteArray.ext
  rw [ByteArray.data_extract]
  exact Array.extract_size

def strVals (L : List ByteArray) : List Value := L.map Value.string
theorem strs_of_own {w : World} {v : Value} {L : List ByteArray} (h : w.ownsRow 0 9 1 v L.length (strVals L)) : StrsAt w v L := by
  rcases h.2 with ⟨rfl, h0⟩ | ⟨g, cap, cur, rfl, _, hg, hnc, hcm, hcs, ht⟩
  · have : L = [] := List.eq_nil_of_length_eq_zero h0
    subst this
    exact ⟨none, 0, rfl, Nat.le_refl _, Nat.zero_le _, fun i hi => absurd hi (Nat.not_lt_zero _)⟩
  · refine ⟨_, cap, rfl, hnc, hcm, fun i hi => ⟨_, rfl, rfl, ?_⟩⟩
    have h1 := congrArg (fun z => z[i]?) ht
    simp only [List.getElem?_take] at h1
    rw [if_pos (by omega)] at h1
    rw [cell_of hg, ← Array.getElem?_toList, Nat.zero_add, h1]
    simp [strVals, hi]
theorem one_strs (L : List ByteArray) : ∀ u ∈ strVals L, u.oneCell' = true := by
  intro u hu
  simp [strVals] at hu
  obtain ⟨_, _, rfl⟩ := hu
  rfl
theorem Try.infoS : (Try.prog.info? 9).map (fun i => (i.zero, i.size, i.bytes)) = some (some (.string ByteArray.empty), 1, 16) := by kernel_rfl

section
variable {P : Program} {w : World}
/-- append, as one step of a region that draws its order. -/
theorem step_append_src {ops : Array Oper} {o : Oper} {a : Act} {K : Act → World → Prop} {Q : Exit → Act → World → Prop} {E : Prop}
    (hg : o.guard = none) (s x : Operand) (t : TypeId) (hop : o.op = Op.call { callee := Callee.builtin Builtin.append, args := #[s, x], argTypes := #[t, t] })
    (base : Nat) (e : TypeId) (i : TypeInfo) (z : Value) (size bytes : Nat) (ht : P.underlying t = some (.slice e)) (hi : P.info? e = some i) (hz : i.zero = some z)
    (hsize : i.size = size) (hby : i.bytes = bytes) (hzs : z.cells.size = size) (hsz : 0 < size)
    (v : Value) (n : Nat) (xs : List Value) (hs : a.eval s = v) (hown : w.ownsRow base e size v n xs)
    (sv : Value) (m : Nat) (ys : List Value) (hx : a.eval x = sv) (hr : Reads w size sv m ys) (h1 : ∀ u ∈ ys, u.oneCell' = true)
    (h63 : n + m ≤ maxLen) (hbytes : (n + m) * bytes ≤ 140737488355328) (hbase : base ≤ w.heap.size)
    (hK : ∀ v' w', w'.ownsRow base e size v' (n + m) (xs ++ ys) → w.grownBy w' v.ownBlock → (v'.ownBlock = v.ownBlock ∨ v'.ownBlock = some w.heap.size) → K (a.put o.dst v') w') :
    if Region.wanted o (yielded ops a.tmps) = true then Oper.wp P o a w K Q else E := by
  have hw : Region.wanted o (yielded ops a.tmps) = true := by simp [Region.wanted, hg]
  rw [if_pos hw]
  obtain ⟨v', w', hrun, h2, h3, h5⟩ := run_append_src (P := P) base t o.type e i z size bytes ht hi hz hsize hby hzs hsz v n xs hown sv m ys hr h1 h63 hbytes hbase
  unfold Oper.wp
  simp only [execOp, hop, resolve, invoke, builtin, Sem.run_bind, Sem.run_pure, Result.andThen_ok, List.map_toArray, List.map_cons, List.map_nil, hs, hx, hrun]
  exact hK v' w' h2 h3 h5
end

def SplitPost (s : ByteArray) (w : World) (e : Ending) (w' : World) : Prop :=
  ∃ v, e = .returned (.tuple #[v, .int .i64 (splitG s.size s).2]) ∧ StrsAt w' v (splitG s.size s).1 ∧ Same [] w w'

def splitJ (s0 : ByteArray) (w : World) (a : Act) (w' : World) : Prop :=
  ∃ (k : Nat) (L : List ByteArray) (R : ByteArray) (v : Value) (u1 u5 u6 u7 u8 u9 u10 u11 u12 u13 u14 u15 u16 u17 u18 u19 u20 u21 u22 u23 u24 u25 u26 u27 u28 u29 u30 u31 u32 u33 u34 u35 u36 u37 u38 u39 u40 : Value), R.size ≤ k ∧ R.size ≤ s0.size ∧ L.length + R.size ≤ s0.size ∧ splitG s0.size s0 = comb L (splitG k R) ∧
    w'.ownsRow 0 9 1 v L.length (strVals L) ∧ (∀ b, v.ownBlock = some b → w.heap.size ≤ b) ∧ Same [] w w' ∧ a = { tmps := #[.string R, u1, .slice none 0 0, .int .i64 0, v, u5, u6, u7, u8, u9, u10, u11, u12, u13, u14, u15, u16, u17, u18, u19, u20, u21, u22, u23, u24, u25, u26, u27, u28, u29, u30, u31, u32, u33, u34, u35, u36, u37, u38, u39, u40], defers := [] }

theorem size_extract (s : ByteArray) (a b : Nat) (h1 : a ≤ b) (h2 : b ≤ s.size) : (s.extract a b).size = b - a := by rw [ByteArray.size_extract]; omega

set_option maxHeartbeats 4000000 in
theorem split_any (s0 : ByteArray) (w : World) (hs0 : s0.size < 1099511627776) : Calls Try.prog 22 #[.string s0] w (SplitPost s0 w) := by
  obtain ⟨i0, hi, hz0, hz1, hz2⟩ := info_parts Try.infoS
  go_enter Try.func22, Try.ntmps22
  go_wp2
  refine wp_scope_one 0 (splitJ s0 w) (fun a _ => match a.tmps.getD 0 undef with | .string r => r.size | _ => 0) rfl ?_ ?_
  · simp only [wpAll]
    go_wp2_with fail
    exact ⟨s0.size, [], s0, .slice none 0 0, _, _, _, _, _, _, _, _, _, _, _, _, _, _, _, _, _, _, _, _, _, _, _, _, _, _, _, _, _, _, _, _, _, _, _, _, _, Nat.le_refl _, Nat.le_refl _, by simp, (comb_nil _ (splitG_err _ _)).symm, World.ownsRow_nil _ _ _ _, fun b hb => (by cases hb), Same.refl _ _, rfl⟩
  · rintro a w1 ⟨k, L, R, v, u1, u5, u6, u7, u8, u9, u10, u11, u12, u13, u14, u15, u16, u17, u18, u19, u20, u21, u22, u23, u24, u25, u26, u27, u28, u29, u30, u31, u32, u33, u34, u35, u36, u37, u38, u39, u40, hk, hR0, hLR, hinv, hown, hfr, hsm, rfl⟩
    have HI := Lib.hid hinv; have HO := Lib.hid hown; have HF := Lib.hid hfr; have HS := Lib.hid hsm
    clear hinv hown hfr hsm
    by_cases h0 : R.size = 0
    · obtain rfl : R = ⟨#[]⟩ := by
        obtain ⟨⟨l⟩⟩ := R
        have : l = [] := List.eq_nil_of_length_eq_zero (by simpa [ByteArray.size] using h0)
        subst this; rfl
      have hres : splitG s0.size s0 = (L, 0) := by
        rw [HI.out, splitG_none _ _ h0]; simp [comb]
      have HRS := Lib.hid hres
      clear hres h0
      go_wp2
      simp only [jump1]
      go_ret2
      exact ⟨v, by rw [HRS.out]; rfl, by rw [HRS.out]; exact strs_of_own HO.out, HS.out⟩
    · obtain ⟨n1, n2⟩ := nonempty R (by omega)
      have hsz : R.size ≤ maxLen := by unfold maxLen; omega
      have hp := fun W => peek_any R W hsz
      by_cases he : peekE R = 0
      · obtain ⟨g0, g1, g2, g3, g4, g5⟩ := peek_good he
        by_cases hl : (R.size : Int) < (headOf R).l
        · -- the whole rest, and too short
          have hcut : cutAt R = R.size := by unfold cutAt; rw [if_pos he]; omega
          have hce : checkE R = 10 := by unfold checkE; rw [if_neg (by omega), if_pos hl]
          have hres : splitG s0.size s0 = ([], 10) := by
            rw [HI.out, splitG_bad k R h0 (by rw [hcut, extract_all, hce]; omega) hk, hcut, extract_all, hce]; simp [comb]
          have hck := fun W => check_any R W hsz
          have hex := extract_all R
          unfold PeekPost at hp
          rw [g5, he] at hp
          rw [hce] at hck
          clear g5 hcut hce he
          generalize headOf R = x at *
          obtain ⟨xv, xh, xl, xp⟩ := x
          simp only [Hd.val] at hp hl g1 g2 g3
          have hmin : min (R.size : Int) xl = (R.size : Int) := by omega
          have HRS := Lib.hid hres; have HP := Lib.hid hp; have HC := Lib.hid hck
          clear hres hp hck h0
          go_wp2_with fail
          (with_reducible refine (HP.out _).mono ?_)
          rintro e w2 ⟨rfl, s2⟩
          have S2 := Lib.hid (HS.out.trans_nil s2)
          clear s2
          go_wp2_with fail
          (with_reducible refine (HC.out _).mono ?_)
          rintro e w3 ⟨rfl, s3⟩
          have S3 := Lib.hid ((S2.out.alloc _).trans_nil s3)
          clear s3
          go_wp2_with fail
          simp only [jump1]
          go_ret2
          exact ⟨.slice none 0 0, by rw [HRS.out]; rfl, by rw [HRS.out]; exact ⟨none, 0, rfl, Nat.le_refl _, Nat.zero_le _, fun i hi => absurd hi (Nat.not_lt_zero _)⟩, S3.out⟩
        · -- a piece
          obtain ⟨m, hm⟩ : ∃ m : Nat, (headOf R).l = m := ⟨(headOf R).l.toNat, by omega⟩
          have hcut : cutAt R = m := by unfold cutAt; rw [if_pos he]; omega
          have hm1 : m ≤ R.size := by omega
          have hm20 : 20 ≤ m := by omega
          have hpz : (R.extract 0 m).size = m := by rw [size_extract _ _ _ (by omega) hm1]; omega
          have hrz : (R.extract m R.size).size = R.size - m := size_extract _ _ _ hm1 (Nat.le_refl _)
          have hck := fun W => check_any (R.extract 0 m) W (by rw [hpz]; unfold maxLen; omega)
          unfold PeekPost at hp
          rw [g5, he] at hp
          by_cases hce : checkE (R.extract 0 m) = 0
          · obtain ⟨k', rfl⟩ : ∃ k', k = k' + 1 := ⟨k - 1, by omega⟩
            have hinv2 : splitG s0.size s0 = comb (L ++ [R.extract 0 m]) (splitG k' (R.extract m R.size)) := by
              rw [HI.out, splitG_good k' R h0 (by rw [hcut]; exact hce), hcut, comb_comb]
            rw [hce] at hck
            clear g5 hcut hce he
            generalize headOf R = x at *
            obtain ⟨xv, xh, xl, xp⟩ := x
            simp only [Hd.val] at hp hl g1 g2 g3 hm
            subst hm
            have hlm : (m : Int) ≤ (R.size : Int) := by omega
            have hmin : min (R.size : Int) (m : Int) = (m : Int) := by omega
            have HIN := Lib.hid hinv2; have HP := Lib.hid hp; have HC := Lib.hid hck; have HPZ := Lib.hid hpz; have HRZ := Lib.hid hrz
            clear hinv2 hp hck h0 hpz hrz hl
            go_wp2_with fail
            (with_reducible refine (HP.out _).mono ?_)
            rintro e w2 ⟨rfl, s2⟩
            have S2 := Lib.hid (s2.alloc (.cells #[.int .i64 xv, .int .i64 xh, .int .i64 (m : Int), .int .i64 xp] 31))
            clear s2
            go_wp2_with fail
            (with_reducible refine (HC.out _).mono ?_)
            rintro e w3 ⟨rfl, s3⟩
            have s13 := S2.out.trans_nil s3
            have S3 := Lib.hid (HS.out.trans_nil s13)
            have HO3 := Lib.hid (own_same HO.out s13 (fun k hk => by simp))
            clear s3 s13
            go_wp2_with fail
            go_region_law (refine step_append_src rfl (.tmp 32) (.tmp 36) 22 rfl 0 9 i0 (.string ByteArray.empty) 1 16 Try.underlying22 hi hz0 hz1 hz2 rfl (by decide) v L.length (strVals L) rfl (by exact (HO3.out.alloc _)) _ 1 [.string (R.extract 0 m)] rfl (by exact Reads.of_own (row_new w3 #[.string (R.extract 0 m)] 9 1 rfl (by decide))) (by intro u hu; simp at hu; subst hu; rfl) (by unfold maxLen; omega) (by omega) (by simp) ?_; intro v' w4 hown hgrow hat; have HOWN := Lib.hid hown; have HG := Lib.hid hgrow; have HAT := Lib.hid hat; clear hown hgrow hat)
            all_goals go_wp2
            all_goals go_step3
            all_goals
              refine ⟨rfl, ⟨k', L ++ [R.extract 0 m], R.extract m R.size, v', _, _, _, _, _, _, _, _, _, _, _, _, _, _, _, _, _, _, _, _, _, _, _, _, _, _, _, _, _, _, _, _, _, _, _, _, _, by have := HRZ.out; omega, by have := HRZ.out; omega, by have := HRZ.out; simp; omega, HIN.out, ?_, ?_, ?_, rfl⟩, ?_⟩
              · have h := HOWN.out
                simpa [strVals] using h
              · intro b hb
                have hsz3 := S3.out.size
                rcases HAT.out with h | h
                · rw [h] at hb; exact HF.out b hb
                · rw [h] at hb; cases hb; simp only [drew_heap, World.size_alloc]; omega
              · exact ((S3.out.alloc _).drew).trans (Same.of_grown HG.out) (fun x hx hlt => by have := HF.out x (by simpa using hx); omega)
              · have h1 := HRZ.out
                show (R.extract m R.size).size < R.size
                omega
          · have hres : splitG s0.size s0 = ([], checkE (R.extract 0 m)) := by
              rw [HI.out, splitG_bad k R h0 (by rw [hcut]; exact hce) hk, hcut]; simp [comb, hce]
            have hne : (checkE (R.extract 0 m) != 0) = true := by rw [bne_iff_ne]; exact hce
            clear g5 hcut hce he
            generalize checkE (R.extract 0 m) = E at *
            generalize headOf R = x at *
            obtain ⟨xv, xh, xl, xp⟩ := x
            simp only [Hd.val] at hp hl g1 g2 g3 hm
            subst hm
            have hlm : (m : Int) ≤ (R.size : Int) := by omega
            have hmin : min (R.size : Int) (m : Int) = (m : Int) := by omega
            have HRS := Lib.hid hres; have HP := Lib.hid hp; have HC := Lib.hid hck; have HPZ := Lib.hid hpz; have HRZ := Lib.hid hrz
            clear hres hp hck h0 hpz hrz hl
            go_wp2_with fail
            (with_reducible refine (HP.out _).mono ?_)
            rintro e w2 ⟨rfl, s2⟩
            have S2 := Lib.hid (HS.out.trans_nil s2)
            clear s2
            go_wp2_with fail
            (with_reducible refine (HC.out _).mono ?_)
            rintro e w3 ⟨rfl, s3⟩
            have S3 := Lib.hid ((S2.out.alloc _).trans_nil s3)
            clear s3
            go_wp2_with fail
            simp only [jump1]
            go_ret2
            exact ⟨.slice none 0 0, by rw [HRS.out]; rfl, by rw [HRS.out]; exact ⟨none, 0, rfl, Nat.le_refl _, Nat.zero_le _, fun i hi => absurd hi (Nat.not_lt_zero _)⟩, S3.out⟩
      · have hcut : cutAt R = R.size := by unfold cutAt; rw [if_neg he]
        have hce : checkE R = peekE R := checkE_of_peek he
        have hres : splitG s0.size s0 = ([], peekE R) := by
          rw [HI.out, splitG_bad k R h0 (by rw [hcut, extract_all, hce]; exact he) hk, hcut, extract_all, hce]; simp [comb, he]
        have hck := fun W => check_any R W hsz
        have hex := extract_all R
        have hne : (peekE R != 0) = true := by rw [bne_iff_ne]; exact he
        have hne2 : (peekE R == 0) = false := by rw [beq_eq_false_iff_ne]; exact he
        unfold PeekPost at hp
        rw [hce] at hck
        clear hcut hce he
        generalize peekE R = E at *
        generalize peekH R = x at *
        obtain ⟨xv, xh, xl, xp⟩ := x
        simp only [Hd.val] at hp
        have HRS := Lib.hid hres; have HP := Lib.hid hp; have HC := Lib.hid hck
        clear hres hp hck h0
        go_wp2_with fail
        (with_reducible refine (HP.out _).mono ?_)
        rintro e w2 ⟨rfl, s2⟩
        have S2 := Lib.hid (HS.out.trans_nil s2)
        clear s2
        go_wp2_with fail
        (with_reducible refine (HC.out _).mono ?_)
        rintro e w3 ⟨rfl, s3⟩
        have S3 := Lib.hid ((S2.out.alloc _).trans_nil s3)
        clear s3
        go_wp2_with fail
        simp only [jump1]
        go_ret2
        exact ⟨.slice none 0 0, by rw [HRS.out]; rfl, by rw [HRS.out]; exact ⟨none, 0, rfl, Nat.le_refl _, Nat.zero_le _, fun i hi => absurd hi (Nat.not_lt_zero _)⟩, S3.out⟩

end Go.Proofs.Yteifbncgfopgfaa.Dg
