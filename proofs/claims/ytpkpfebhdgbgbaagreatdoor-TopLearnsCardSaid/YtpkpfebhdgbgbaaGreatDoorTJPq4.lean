/- The packer (Pack). Conditions: the sections have fewer than 2^40 bytes together. -/
import Derived.Test.YtpkpfebhdgbgbaaGreatDoorTJPq3
import Derived.Test.YtpkpfebhdgbgbaaGreatDoorTJBd6
namespace Go.Proofs.YtpkpfebhdgbgbaaGreatDoor.J
open Go.RowKit
set_option linter.unusedSimpArgs false
set_option linter.unusedVariables false

/-- The packets of a stream, with counts. -/
def numbP (pid c : Int) : Nat → List (Bool × ByteArray) → List PkD
  | _, [] => []
  | i, p :: L => ⟨pid, p.1, (c + (i : Int)) % 16, false, p.2⟩ :: numbP pid c (i + 1) L
theorem numbP_length (pid c : Int) : ∀ (i : Nat) (L : List (Bool × ByteArray)), (numbP pid c i L).length = L.length
  | i, [] => rfl
  | i, q :: L => by rw [numbP, List.length_cons, numbP_length pid c (i + 1) L, List.length_cons]
theorem numbP_append (pid c : Int) : ∀ (i : Nat) (L M : List (Bool × ByteArray)), numbP pid c i (L ++ M) = numbP pid c i L ++ numbP pid c (i + L.length) M
  | i, [], M => rfl
  | i, q :: L, M => by rw [List.cons_append, numbP, numbP_append pid c (i + 1) L M, numbP, List.cons_append, List.length_cons, show i + 1 + L.length = i + (L.length + 1) by omega]

/-- What is wrong with sections: with the first one that is wrong. -/
def errS : List ByteArray → Int
  | [] => 0
  | s :: l => if chkS s ≠ 0 then chkS s else errS l
theorem errS_app {pre l : List ByteArray} (h : ∀ x ∈ pre, chkS x = 0) : errS (pre ++ l) = errS l := by
  induction pre with
  | nil => rfl
  | cons x pre ih =>
    rw [List.cons_append, errS, if_neg (by rw [h x List.mem_cons_self]; decide)]
    exact ih (fun y hy => h y (List.mem_cons_of_mem _ hy))
theorem errS_zero {l : List ByteArray} (h : errS l = 0) : ∀ x ∈ l, Good x := by
  induction l with
  | nil => intro x hx; cases hx
  | cons y l ih =>
    rw [errS] at h
    split at h
    · rename_i h1; exact absurd h h1
    · rename_i h1
      intro x hx
      rcases List.mem_cons.1 hx with rfl | hx
      · exact chk_good (Decidable.byContradiction h1)
      · exact ih h x hx

def PackBad (w : World) (er : Int) (e : Ending) (w' : World) : Prop := e = .returned (.tuple #[.slice none 0 0, .int .i64 0, .int .i64 er]) ∧ Same [] w w'
def PackOk (w : World) (pid count : Int) (PK : List (Bool × ByteArray)) (e : Ending) (w' : World) : Prop :=
  ∃ v2, e = .returned (.tuple #[v2, .int .i64 ((count + (PK.length : Int)) % 16), .int .i64 0]) ∧ w'.ownsRow 0 85 5 v2 (numbP pid count 0 PK).length (pdVals (numbP pid count 0 PK)) ∧ (∀ q, v2.ownBlock = some q → w.heap.size ≤ q) ∧ Same [] w w'

theorem pack_range (pid count : Int) (L : List ByteArray) (v : Value) (w : World) (h : pid < 0 ∨ 8190 < pid ∨ count < 0 ∨ 15 < count) :
    Calls Tryz.prog 25 #[.int .i64 pid, .int .i64 count, v] w (PackBad w 15) := by
  have hcs : pid < 0 ∨ (¬ pid < 0 ∧ (8191 : Int) ≤ pid) ∨ (¬ pid < 0 ∧ ¬ (8191 : Int) ≤ pid ∧ count < 0) ∨ (¬ pid < 0 ∧ ¬ (8191 : Int) ≤ pid ∧ ¬ count < 0 ∧ (16 : Int) ≤ count) := by omega
  clear h
  rcases hcs with h | ⟨h, h1⟩ | ⟨h, h1, h2⟩ | ⟨h, h1, h2, h3⟩
  all_goals
    go_enter Tryz.func25, Tryz.ntmps25
    go_wp2_with fail
    go_ret3
    exact ⟨rfl, Same.refl _ _⟩

set_option maxRecDepth 100000 in
set_option maxHeartbeats 4000000 in
theorem pack_bad (pid count : Int) (L : List ByteArray) (v : Value) (w : World) (h0 : 0 ≤ pid) (h1 : pid ≤ 8190) (h2 : 0 ≤ count) (h3 : count ≤ 15) (hr : StrsAt w v L) (he : errS L ≠ 0) (hz : ∀ x ∈ L, x.size < 1099511627776) :
    Calls Tryz.prog 25 #[.int .i64 pid, .int .i64 count, v] w (PackBad w (errS L)) := by
  obtain ⟨ad, c, rfl, hc1, hc2, hc3⟩ := hr
  have HC := Lib.hid hc3; have HE := Lib.hid he; have HZ := Lib.hid hz
  have hmx : L.length ≤ 9223372036854775807 := by unfold maxLen at hc2; omega
  clear hc3 he hz
  have g0 : ¬ pid < 0 := by omega
  have g1 : ¬ (8191 : Int) ≤ pid := by omega
  have g2 : ¬ count < 0 := by omega
  have g3 : ¬ (16 : Int) ≤ count := by omega
  obtain ⟨ER, hER⟩ : ∃ ER, ER = errS L := ⟨_, rfl⟩
  rw [← hER]
  have HER := Lib.hid hER
  clear hER
  go_enter Tryz.func25, Tryz.ntmps25
  go_wp2_with fail
  go_loopw [32] (fun s32 wr => ∃ pre ls : List ByteArray, L = pre ++ ls ∧ s32 = .int .i64 pre.length ∧ (∀ x ∈ pre, chkS x = 0) ∧ Same [] w wr) (fun s32 _ => L.length - (intOf s32).toNat)
  case atStart => exact ⟨[], L, rfl, rfl, (fun x hx => nomatch hx), Same.refl _ _⟩
  case round =>
    obtain ⟨pre, ls, hL, rfl, hpre, hsm⟩ := hrel
    have HP := Lib.hid hpre; have HS := Lib.hid hsm
    clear hpre hsm
    have hpl : pre.length ≤ L.length := by rw [hL]; simp
    cases ls with
    | nil =>
      exact absurd (by rw [hL, errS_app HP.out]; rfl) HE.out
    | cons x ls =>
      have hlen : pre.length < L.length := by rw [hL]; simp
      have hlt : (pre.length : Int) < (L.length : Int) := by omega
      obtain ⟨g, o, rfl, hx0⟩ := suffix_cell HC.out hL
      have hx := HS.out.cell hx0 (by simp)
      have HK := Lib.hid (fun W => pkcheck_any x W (HZ.out x (by rw [hL]; simp)))
      have HL := Lib.hid hL
      obtain ⟨ck, hck⟩ : ∃ ck, ck = chkS x := ⟨_, rfl⟩
      rw [← hck] at HK
      have HCK := Lib.hid hck
      clear hL hx0 hck
      by_cases hc0 : ck = 0
      · subst hc0
        go_wp2_with fail
        (with_reducible refine (HK.out _).mono ?_)
        rintro e w2 ⟨rfl, s2⟩
        have S2 := Lib.hid (HS.out.trans_nil s2)
        clear s2
        go_wp2_with fail
        go_roundw
        case rel => exact ⟨pre ++ [x], ls, by rw [HL.out]; simp, by simp, fun y hy => by
          rcases List.mem_append.1 hy with h | h
          · exact HP.out y h
          · rw [List.mem_singleton.1 h]; exact HCK.out.symm, S2.out⟩
        case measure => simp [intOf]; omega
      · have hne : (ck != 0) = true := by simp; exact hc0
        have her : ER = ck := by rw [HER.out, HL.out, errS_app HP.out, errS, if_pos (by rw [← HCK.out]; exact hc0), HCK.out]
        have HRR := Lib.hid her
        clear her hc0
        go_wp2_with fail
        (with_reducible refine (HK.out _).mono ?_)
        rintro e w2 ⟨rfl, s2⟩
        have S2 := Lib.hid (HS.out.trans_nil s2)
        clear s2
        go_wp2_with fail
        go_ret3
        exact ⟨by rw [HRR.out]; rfl, S2.out⟩

/-- How many bytes a stream still has. -/
def Has (wv : World) (b n : Nat) : Prop := ∃ t V l, StAt wv b t V ∧ LsAt wv b V l ∧ (t ++ catL l).size = n
open Classical in
noncomputable def stM2 (b : Nat) (wv : World) : Nat := if h : ∃ n, Has wv b n then Classical.choose h else 0
theorem st_inj {w : World} {b : Nat} {t t' : ByteArray} {V V' : Value} (h : StAt w b t V) (h' : StAt w b t' V') : t = t' ∧ V = V' := by
  have := h.symm.trans h'
  simpa using this
theorem ls_inj {w : World} {b : Nat} {V : Value} {l l' : List ByteArray} (h : LsAt w b V l) (h' : LsAt w b V l') : l = l' := by
  obtain ⟨ad, c, rfl, _, _, h3⟩ := h
  obtain ⟨ad', c', he, _, _, h3'⟩ := h'
  simp only [Value.slice.injEq] at he
  obtain ⟨rfl, hlen, rfl⟩ := he
  refine List.ext_getElem hlen fun i h1 h2 => ?_
  obtain ⟨g, o, rfl, _, e⟩ := h3 i h1
  obtain ⟨g', o', he, _, e'⟩ := h3' i h2
  cases he
  have := e.symm.trans e'
  simpa using this
theorem stM2_eq {wv : World} {b : Nat} {t : ByteArray} {V : Value} {l : List ByteArray} (h1 : StAt wv b t V) (h2 : LsAt wv b V l) : stM2 b wv = (t ++ catL l).size := by
  have h : ∃ n, Has wv b n := ⟨_, t, V, l, h1, h2, rfl⟩
  unfold stM2
  rw [dif_pos h]
  obtain ⟨t', V', l', g1, g2, g3⟩ := Classical.choose_spec h
  obtain ⟨rfl, rfl⟩ := st_inj h1 g1
  obtain rfl := ls_inj h2 g2
  exact g3.symm

set_option maxRecDepth 100000 in
set_option maxHeartbeats 4000000 in
theorem pack_ok (pid count : Int) (L : List ByteArray) (v : Value) (w : World) (h0 : 0 ≤ pid) (h1 : pid ≤ 8190) (h2 : 0 ≤ count) (h3 : count ≤ 15) (hr : StrsAt w v L) (hg : ∀ x ∈ L, Good x) (hz : (catL L).size < 1000000000000) :
    Calls Tryz.prog 25 #[.int .i64 pid, .int .i64 count, v] w (PackOk w pid count (packG (catL L).size ⟨#[]⟩ L)) := by
  obtain ⟨j0, hj, hy0, hy1, hy2⟩ := info_parts Tryz.infoP
  obtain ⟨ad, c, rfl, hc1, hc2, hc3⟩ := hr
  have HC := Lib.hid hc3; have HG := Lib.hid hg
  have hmx : L.length ≤ 9223372036854775807 := by unfold maxLen at hc2; omega
  clear hc3 hg
  have g0 : ¬ pid < 0 := by omega
  have g1 : ¬ (8191 : Int) ≤ pid := by omega
  have g2 : ¬ count < 0 := by omega
  have g3 : ¬ (16 : Int) ≤ count := by omega
  go_enter Tryz.func25, Tryz.ntmps25
  go_wp2_with fail
  go_loopw [32] (fun s32 wr => ∃ pre ls : List ByteArray, L = pre ++ ls ∧ s32 = .int .i64 pre.length ∧ Same [] w wr) (fun s32 _ => L.length - (intOf s32).toNat)
  case atStart => exact ⟨[], L, rfl, rfl, Same.refl _ _⟩
  case round =>
    obtain ⟨pre, ls, hL, rfl, hsm⟩ := hrel
    have HS := Lib.hid hsm
    clear hsm
    have hpl : pre.length ≤ L.length := by rw [hL]; simp
    cases ls with
    | cons x ls =>
      have hlen : pre.length < L.length := by rw [hL]; simp
      have hlt : (pre.length : Int) < (L.length : Int) := by omega
      obtain ⟨g, o, rfl, hx0⟩ := suffix_cell HC.out hL
      have hx := HS.out.cell hx0 (by simp)
      have hgx := HG.out x (by rw [hL]; simp)
      have hk := fun W => pkcheck_any x W (by have := hgx.size; omega)
      rw [good_chk hgx] at hk
      have HK := Lib.hid hk
      have HL := Lib.hid hL
      clear hL hx0 hk hgx
      go_wp2_with fail
      (with_reducible refine (HK.out _).mono ?_)
      rintro e w2 ⟨rfl, s2⟩
      have S2 := Lib.hid (HS.out.trans_nil s2)
      clear s2
      go_wp2_with fail
      go_roundw
      case rel => exact ⟨pre ++ [x], ls, by rw [HL.out]; simp, by simp, S2.out⟩
      case measure => simp [intOf]; omega
    | nil =>
      have hL2 : L = pre := by rw [hL]; simp
      subst hL2
      have hlt : ¬ (L.length : Int) < (L.length : Int) := by omega
      clear hL
      obtain ⟨w1, rfl⟩ : ∃ w1 : World, w1 = wr := ⟨_, rfl⟩
      go_wp2_with fail
      have hst : StAt (w1.alloc (.cells #[.string ⟨#[]⟩, .slice ad L.length c] 143)) w1.heap.size ⟨#[]⟩ (.slice ad L.length c) := heap_alloc_new w1 _
      have hsa : Same [] w1 (w1.alloc (.cells #[.string ⟨#[]⟩, .slice ad L.length c] 143)) := (Same.refl [] w1).alloc _
      have hls : LsAt (w1.alloc (.cells #[.string ⟨#[]⟩, .slice ad L.length c] 143)) w1.heap.size (.slice ad L.length c) L := by
        refine ⟨ad, c, rfl, hc1, hc2, fun i hi => ?_⟩
        obtain ⟨⟨g, o, sp⟩, e1, e2, e3⟩ := HC.out i hi
        simp only at e2 e3; subst e2
        have hlt : g < w.heap.size := World.block_lt_of_cell? w _ e3
        exact ⟨g, o, e1, Nat.lt_of_lt_of_le hlt HS.out.size, hsa.cell (HS.out.cell e3 (by simp)) (by simp)⟩
      have hsz1 : (w1.alloc (.cells #[.string ⟨#[]⟩, .slice ad L.length c] 143)).heap.size = w1.heap.size + 1 := World.size_alloc _ _
      generalize w1.alloc (.cells #[.string ⟨#[]⟩, .slice ad L.length c] 143) = w2 at *
      obtain ⟨b, hb⟩ : ∃ b, b = w1.heap.size := ⟨_, rfl⟩
      rw [← hb] at hst hls hsz1 ⊢
      have hwb : w.heap.size ≤ b := by rw [hb]; exact HS.out.size
      have HST := Lib.hid hst; have HLS := Lib.hid hls; have HS2 := Lib.hid (HS.out.trans_nil hsa); have HSZ := Lib.hid hsz1
      have hpz := pack_len (catL L).size ⟨#[]⟩ L
      rw [nil_append] at hpz
      have HPE := Lib.hid (BdAt.start L)
      clear hst hsa hls hsz1 HS hb
      generalize hPK : packG (catL L).size ⟨#[]⟩ L = PK at hpz ⊢
      have HPK := Lib.hid hPK
      clear hPK
      go_loopw [1, 13, 14, 15] (fun s1 s13 s14 s15 wv => ∃ (done : List (Bool × ByteArray)) (k : Nat) (t : ByteArray) (l : List ByteArray) (V : Value), PK = done ++ packG k t l ∧ (t ++ catL l).size ≤ k ∧ k ≤ (catL L).size ∧ (∀ x ∈ l, Good x) ∧ StAt wv b t V ∧ LsAt wv b V l ∧ s1 = .int .i64 ((count + (done.length : Int)) % 16) ∧
        wv.ownsRow 0 85 5 s13 (numbP pid count 0 done).length (pdVals (numbP pid count 0 done)) ∧ (∀ q, s13.ownBlock = some q → b < q) ∧ Same [] w wv) (fun _ _ _ _ wv => stM2 b wv)
      case atStart => exact ⟨[], (catL L).size, ⟨#[]⟩, L, _, HPK.out.symm, by rw [nil_append]; exact Nat.le_refl _, Nat.le_refl _, HG.out, HST.out, HLS.out, by go_num, World.ownsRow_nil _ _ _ _, fun q hq => (by cases hq), HS2.out⟩
      case round =>
        obtain ⟨done, k, t, l, V, hP, hk, hkL, hgl, hst3, hls3, rfl, hown, hfr, hsm⟩ := hrel
        obtain ⟨adv, cv, rfl, _, _, _⟩ := id hls3
        have HP := Lib.hid hP; have HGL := Lib.hid hgl; have HST3 := Lib.hid hst3; have HLS3 := Lib.hid hls3; have HO := Lib.hid hown; have HF := Lib.hid hfr; have HS := Lib.hid hsm
        have HMU := Lib.hid (stM2_eq hst3 hls3)
        obtain ⟨⟨c0, c1⟩, f0, f1⟩ := hst3.cells
        obtain ⟨cc, hcc⟩ : ∃ cc, cc = (count + (done.length : Int)) % 16 := ⟨_, rfl⟩
        rw [← hcc]
        have HCC := Lib.hid hcc
        have hcc0 : 0 ≤ cc ∧ cc ≤ 15 := by omega
        have hdl : done.length ≤ PK.length := by rw [hP]; simp
        clear hP hgl hst3 hls3 hown hfr hsm hcc HST HLS HPE HS2
        by_cases hz0 : (t ++ catL l).size = 0
        · have hsz0 : t.size = 0 ∧ l = [] := by
            rw [ByteArray.size_append] at hz0
            refine ⟨by omega, ?_⟩
            cases l with
            | nil => rfl
            | cons x l =>
              have := (HGL.out x List.mem_cons_self).size
              rw [catL, ByteArray.size_append] at hz0
              omega
          obtain ⟨ht0, hl0⟩ := hsz0
          obtain ⟨n1, n2⟩ := empty_is t ht0
          have hl1 : ¬ (0 : Int) < (l.length : Int) := by rw [hl0]; simp
          have hPD : PK = done := by rw [HP.out, pack_nil k hz0, List.append_nil]
          have HPD := Lib.hid hPD
          clear hz0 hl0 ht0 hPD hk
          go_wp2_with fail
          go_ret3
          refine ⟨_, ?_, ?_, fun q hq => by have := HF.out q hq; omega, HS.out⟩
          · rw [HPK.out, HPD.out, ← HCC.out]; rfl
          · rw [HPK.out, HPD.out]; exact HO.out
        · obtain ⟨k', rfl⟩ : ∃ k', k = k' + 1 := ⟨k - 1, by omega⟩
          have hpos : ∀ x ∈ l, 0 < x.size := fun x hx => by have := (HGL.out x hx).size; omega
          have hpk := pack_next (k := k') hpos hz0
          obtain ⟨hn1, hn2, hn3⟩ := next_size t l hz0 hpos
          have hle : (t ++ catL l).size < 1099511627776 := by omega
          have HNX := Lib.hid (snext_any HST3.out HLS3.out hle)
          have hdl2 : done.length < PK.length := by rw [HP.out, hpk]; simp
          have hcond : t.size ≠ 0 ∨ (t.size = 0 ∧ l ≠ []) := by
            by_cases h : t.size = 0
            · refine .inr ⟨h, fun e => hz0 ?_⟩
              rw [e, ByteArray.size_append]; show t.size + 0 = 0; omega
            · exact .inl h
          have HPK2 := Lib.hid (show PK = (done ++ [(nextG t l).1]) ++ packG k' (nextG t l).2.1 (nextG t l).2.2 by rw [HP.out, hpk]; simp)
          have HN1 := Lib.hid (show ((nextG t l).2.1 ++ catL (nextG t l).2.2).size ≤ k' by omega)
          have HN3 := Lib.hid (fun x (hx : x ∈ (nextG t l).2.2) => HGL.out x (hn3 x hx))
          have HN0 := Lib.hid hn1
          unfold NextP at HNX
          generalize nextG t l = ng at *
          obtain ⟨⟨st, body⟩, t2, l2⟩ := ng
          simp only at HNX HPK2 HN1 HN3 HN0
          have hlen48 : ((numbP pid count 0 done).length + 1) * 48 ≤ 140737488355328 := by rw [numbP_length]; omega
          have hl63 : (numbP pid count 0 done).length + 1 ≤ maxLen := by rw [numbP_length]; unfold maxLen; omega
          have hkL2 : k' ≤ (catL L).size := by omega
          clear hpk hn1 hn2 hn3 hle hpos hk hkL
          go_upto_region 12 with fail
          go_cut [57] (fun s57 wx => s57 = .bool true ∧ wr = wx)
          case first =>
            rcases hcond with ht0 | ⟨ht0, hl0⟩
            · obtain ⟨n1, n2⟩ := nonempty t (by omega)
              go_wp2_with fail
              go_meet
              exact ⟨rfl, rfl⟩
            · obtain ⟨n1, n2⟩ := empty_is t ht0
              have hl1 : (0 : Int) < (l.length : Int) := by have := List.length_pos_iff.2 hl0; omega
              go_wp2_with fail
              go_meet
              first | exact ⟨rfl, rfl⟩ | exact ⟨congrArg Value.bool (by simp; omega), rfl⟩
          obtain ⟨rfl, rfl⟩ := hcut
          clear hcond hz0 HP
          go_wp2_with fail
          (with_reducible refine HNX.out.mono ?_)
          rintro e w4 ⟨rfl, V4, hst4, hls4, hsm4⟩
          have HST4 := Lib.hid hst4; have HLS4 := Lib.hid hls4
          have hbw : w.heap.size ≤ b := hwb
          have HS4 := Lib.hid ((HS.out.mono (T := [b]) (by simp)).trans hsm4 (fun x hx _ => hx) |>.mono (T := []) (fun x hx hlt => by simp at hx; omega))
          have HO4 := Lib.hid (own_same HO.out hsm4 (fun q hq => by have := HF.out q hq; simp; omega))
          have hb4 : b < w4.heap.size := heap_lt hst4
          clear hst4 hls4 hsm4 HNX HO HS c0 c1 f0 f1
          go_wp2_with (first | (at_builtin; refine wpList_append_src rfl (.tmp 63) (.tmp 69) 77 rfl 0 85 j0 _ 5 48 Tryz.underlying77 hj hy0 hy1 hy2 pkZ_cells (by decide) _ (numbP pid count 0 done).length (pdVals (numbP pid count 0 done)) rfl (by exact HO4.out.alloc _) _ 1 (pdV ⟨pid, st, cc, false, body⟩) rfl (by exact reads_pd w4 ⟨pid, st, cc, false, body⟩) (one_pd _) hl63 hlen48 (Nat.zero_le _) ?_; intro v' w5 hown hgrow hat; have HOWN := Lib.hid hown; have HGR := Lib.hid hgrow; have HAT := Lib.hid hat; clear hown hgrow hat) | fail)
          have hgr : (w4.alloc (.cells #[.int .i64 pid, .bool st, .int .i64 cc, .bool false, .string body] 85)).grownBy w5 u13.ownBlock := HGR.out
          have hat : v'.ownBlock = u13.ownBlock ∨ v'.ownBlock = some (w4.alloc (.cells #[.int .i64 pid, .bool st, .int .i64 cc, .bool false, .string body] 85)).heap.size := HAT.out
          rw [World.size_alloc] at hat
          have hs45 : Same u13.ownBlock.toList w4 w5 := ((Same.refl u13.ownBlock.toList w4).alloc _).trans (Same.of_grown hgr) (fun x hx _ => hx)
          have hnb : ∀ x, x ∈ u13.ownBlock.toList → b < x := fun x hx => HF.out x (by simpa using hx)
          have hst5 : StAt w5 b t2 V4 := HST4.out.same hs45 (fun hm => by have := hnb _ hm; omega)
          have hls5 : LsAt w5 b V4 l2 := by
            obtain ⟨ad9, c9, e9, q1, q2, q3⟩ := HLS4.out
            refine ⟨ad9, c9, e9, q1, q2, fun i hi => ?_⟩
            obtain ⟨g, o, e1, e2, e3⟩ := q3 i hi
            exact ⟨g, o, e1, e2, hs45.cell e3 (fun hm => by have h9 : b < g := hnb g hm; omega)⟩
          have HMU5 := Lib.hid (stM2_eq hst5 hls5)
          have hnum : numbP pid count 0 (done ++ [(st, body)]) = numbP pid count 0 done ++ [⟨pid, st, cc, false, body⟩] := by
            rw [numbP_append, numbP, numbP, HCC.out, Nat.zero_add]
          go_roundw
          case rel =>
            refine ⟨done ++ [(st, body)], k', t2, l2, V4, HPK2.out, HN1.out, hkL2, HN3.out, hst5, hls5, ?_, ?_, ?_, ?_⟩
            · refine congrArg (Value.int .i64) ?_
              rw [HCC.out, List.length_append]
              simp only [List.length_cons, List.length_nil]
              omega
            · rw [hnum, List.length_append, ← pdVals_snoc]; exact HOWN.out
            · intro q hq
              rcases hat with h | h
              · rw [h] at hq; exact HF.out q hq
              · rw [h] at hq; cases hq; omega
            · exact HS4.out.trans hs45 (fun x hx hlt => by have := hnb _ hx; omega)
          case measure => rw [HMU5.out, HMU.out]; exact HN0.out

end Go.Proofs.YtpkpfebhdgbgbaaGreatDoor.J
