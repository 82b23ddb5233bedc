/- The walk of the law PackerPacks: whatever number of a stream, count and sections, it answers true. No condition. -/
import Derived.Test.YtpnbhgmcfooppaaPq5
namespace Go.Proofs.Ytpnbhgmcfooppaa
open Go.RowKit
set_option linter.unusedSimpArgs false
set_option linter.unusedVariables false

theorem packs_out (pid count : Int) (L : List ByteArray) (v : Value) (w : World) (hr : StrsAt w v L) (h : fewF L = false) :
    Calls Try.prog 6 #[.int .i64 pid, .int .i64 count, v] w (AwakePost w) := by
  have HB := Lib.hid (fewF_is L _ h v w hr)
  clear h hr
  go_enter Try.func6, Try.ntmps6
  go_wp2_with fail
  (with_reducible refine HB.out.mono ?_)
  rintro e w1 ⟨rfl, rfl⟩
  go_wp2_with (go_at_call 21; (with_reducible refine (awake15 _).mono ?_); rintro e w' ⟨rfl, hs⟩; have HS2 := Lib.hid hs; clear hs)
  go_ret
  exact ⟨rfl, HS2.out⟩

theorem split_last {α : Type} (l : List α) : l = [] ∨ ∃ pre x, l = pre ++ [x] := by
  rcases List.eq_nil_or_concat l with h | ⟨pre, x, h⟩
  · exact .inl h
  · exact .inr ⟨pre, x, by rw [h, List.concat_eq_append]⟩

/-- What Pack answers where something is wrong. -/
theorem pack_wrong (pid count : Int) (L : List ByteArray) (ER : Int) (v : Value) (w : World) (hr : StrsAt w v L) (hz : ∀ x ∈ L, x.size < 1099511627776) (hne : ER ≠ 0)
    (he : ((pid < 0 ∨ 8190 < pid ∨ count < 0 ∨ 15 < count) ∧ ER = 15) ∨ (¬ (pid < 0 ∨ 8190 < pid ∨ count < 0 ∨ 15 < count) ∧ ER = errS L)) :
    Calls Try.prog 22 #[.int .i64 pid, .int .i64 count, v] w (PackBad w ER) := by
  rcases he with ⟨h, rfl⟩ | ⟨h, rfl⟩
  · exact pack_range pid count L v w h
  · exact pack_bad pid count L v w (by omega) (by omega) (by omega) (by omega) hr hne hz

set_option maxRecDepth 100000 in
set_option maxHeartbeats 8000000 in
theorem packs_bad (pid count : Int) (L : List ByteArray) (ER : Int) (v : Value) (w : World) (hr : StrsAt w v L) (hb : fewF L = true) (hne : ER ≠ 0)
    (he : ((pid < 0 ∨ 8190 < pid ∨ count < 0 ∨ 15 < count) ∧ ER = 15) ∨ (¬ (pid < 0 ∨ 8190 < pid ∨ count < 0 ∨ 15 < count) ∧ ER = errS L)) :
    Calls Try.prog 6 #[.int .i64 pid, .int .i64 count, v] w (AwakePost w) := by
  obtain ⟨hf1, hf2⟩ := fewF_yes hb
  have HFE := Lib.hid (fewF_is L _ hb v w hr)
  have HPK := Lib.hid (pack_wrong pid count L ER v w hr (fun x hx => by have := hf1 x hx; omega) hne he)
  obtain ⟨ad, c, rfl, hc1, hc2, hc3⟩ := hr
  have HC := Lib.hid hc3; have HF1 := Lib.hid hf1; have HE := Lib.hid he; have HNE := Lib.hid hne
  clear hb hc3 hf1 he hne
  go_enter Try.func6, Try.ntmps6
  go_wp2_with fail
  (with_reducible refine HFE.out.mono ?_)
  rintro e w0 ⟨rfl, rfl⟩
  clear HFE
  go_wp2_with fail
  (with_reducible refine HPK.out.mono ?_)
  rintro e w1 ⟨rfl, s1⟩
  have S1 := Lib.hid s1
  clear s1 HPK
  go_wp2_with fail
  go_loopw [10, 11, 12] (fun s10 s11 s12 wr => ∃ pre ls : List ByteArray, L = pre ++ ls ∧ s11 = .int .i64 ((pre.length : Int) - 1) ∧ s10 = .int .i64 (errS ls) ∧ Same [] w wr) (fun _ s11 _ _ => (intOf s11 + 1).toNat)
  case atStart => exact ⟨L, [], by simp, by go_num, rfl, S1.out⟩
  case round =>
    obtain ⟨pre, ls, hL, rfl, rfl, hsm⟩ := hrel
    have HS := Lib.hid hsm
    have hpl : pre.length ≤ L.length := by rw [hL]; simp
    clear hsm
    obtain ⟨ew, hew⟩ : ∃ ew, ew = errS ls := ⟨_, rfl⟩
    rw [← hew]
    have HEW := Lib.hid hew
    clear hew
    rcases split_last pre with rfl | ⟨pre', x, rfl⟩
    · have hnil : ls = L := by rw [hL]; rfl
      have HLS := Lib.hid hnil
      clear hL hnil hpl
      have hm1 : (((([] : List ByteArray).length : Nat) : Int) - 1) = -1 := rfl
      rw [hm1]
      have hneg : ¬ (0 : Int) ≤ -1 := by decide
      rcases HE.out with ⟨hrg, h15⟩ | ⟨hrg, hel⟩
      · subst h15
        have hcs : pid < 0 ∨ (¬ pid < 0 ∧ (8190 : Int) < pid) ∨ (¬ pid < 0 ∧ ¬ (8190 : Int) < pid ∧ count < 0) ∨ (¬ pid < 0 ∧ ¬ (8190 : Int) < pid ∧ ¬ count < 0 ∧ (15 : Int) < count) := by omega
        clear hrg HE hm1
        rcases hcs with h | ⟨h, h1⟩ | ⟨h, h1, h2⟩ | ⟨h, h1, h2, h3⟩
        all_goals
          go_wp2_with (go_at_call 21; (with_reducible refine (awake15 _).mono ?_); rintro e w' ⟨rfl, hs⟩; have HA9 := Lib.hid hs; clear hs)
          go_ret
          exact ⟨rfl, HS.out.trans_nil HA9.out⟩
      · have hew2 : ER = ew := by rw [hel, HEW.out, HLS.out]
        subst hew2
        have hnz : (ER != 0) = true := by simp; exact HNE.out
        have hee : (ER == ER) = true := by simp
        have g0 : ¬ pid < 0 := by omega
        have g1 : ¬ (8190 : Int) < pid := by omega
        have g2 : ¬ count < 0 := by omega
        have g3 : ¬ (15 : Int) < count := by omega
        clear hrg hel HE hm1
        go_wp2_with (go_at_call 21; (with_reducible refine (awake15 _).mono ?_); rintro e w' ⟨rfl, hs⟩; have HA9 := Lib.hid hs; clear hs)
        go_ret
        exact ⟨rfl, HS.out.trans_nil HA9.out⟩
    · have hlen : pre'.length < L.length := by rw [hL]; simp
      have hlt : (pre'.length : Int) < (L.length : Int) := by omega
      have hi : (((pre' ++ [x]).length : Nat) : Int) - 1 = (pre'.length : Int) := by simp
      rw [hi]
      have hge : (0 : Int) ≤ (pre'.length : Int) := by omega
      have hL2 : L = pre' ++ x :: ls := by rw [hL]; simp
      obtain ⟨g, o, rfl, hx0⟩ := suffix_cell HC.out hL2
      have hx := HS.out.cell hx0 (by simp)
      have hxz := HF1.out x (by rw [hL2]; simp)
      have HR := Lib.hid (fun W => rpkcheck_any x W (by omega)); have HP := Lib.hid (fun W => pkcheck_any x W (by omega))
      have HL2 := Lib.hid hL2
      obtain ⟨ck, hck⟩ : ∃ ck, ck = chkS x := ⟨_, rfl⟩
      rw [← hck] at HR HP
      have HCK := Lib.hid hck; have HX0 := Lib.hid hx0
      have hee : (ck != ck) = false := by simp
      clear hL hL2 hx0 hck hi hpl
      go_wp2_with fail
      (with_reducible refine (HR.out _).mono ?_)
      rintro e w2 ⟨rfl, s2⟩
      have S2 := Lib.hid (HS.out.trans_nil s2)
      clear s2 hx
      have hx := S2.out.cell HX0.out (by simp)
      go_wp2_with fail
      (with_reducible refine (HP.out _).mono ?_)
      rintro e w3 ⟨rfl, s3⟩
      have S3 := Lib.hid (S2.out.trans_nil s3)
      clear s3 hx
      by_cases hc0 : ck = 0
      · have hnz : (ck != 0) = false := by simp; exact hc0
        have HC0 := Lib.hid hc0
        clear hc0
        go_wp2_with fail
        go_roundw
        case rel => exact ⟨pre', x :: ls, by rw [HL2.out], rfl, by rw [HEW.out, errS, if_neg (by rw [← HCK.out, HC0.out]; decide)], S3.out⟩
        case measure => simp [intOf]
      · have hnz : (ck != 0) = true := by simp; exact hc0
        have HC0 := Lib.hid hc0
        clear hc0
        go_wp2_with fail
        go_roundw
        case rel => exact ⟨pre', x :: ls, by rw [HL2.out], rfl, by rw [errS, if_pos (by rw [← HCK.out]; exact HC0.out), HCK.out], S3.out⟩
        case measure => simp [intOf]

theorem strs_same {A B : World} {v : Value} {L : List ByteArray} (h : StrsAt A v L) (hs : Same [] A B) : StrsAt B v L := by
  obtain ⟨ad, c, rfl, h1, h2, h3⟩ := h
  exact ⟨ad, c, rfl, h1, h2, fun i hi => by
    obtain ⟨a, e1, e2, e3⟩ := h3 i hi
    exact ⟨a, e1, e2, hs.cell e3 (by simp)⟩⟩
theorem row_pk {w : World} {b e : Nat} {v : Value} {L : List (Bool × ByteArray)} (h : w.ownsRow b e 5 v L.length (pkVals L)) :
    ∃ ad c, v = .slice ad L.length c ∧ L.length ≤ c ∧ c ≤ maxLen ∧ ∀ pre q post, L = pre ++ q :: post → ∃ g, ad = some ⟨g, 0, none⟩ ∧ PdCells w g (pre.length * 5) ⟨0, q.1, 0, false, q.2⟩ ∧ ∀ k, w.frozen? ⟨g, k, none⟩ = false := by
  rcases h.2 with ⟨rfl, h0⟩ | ⟨g, cap, cur, rfl, _, hg, hnc, hcm, hcs, ht⟩
  · have : L = [] := List.eq_nil_of_length_eq_zero h0
    subst this
    exact ⟨none, 0, rfl, Nat.le_refl _, Nat.zero_le _, fun pre q post hL => by simp at hL⟩
  · refine ⟨_, cap, rfl, hnc, hcm, fun pre q post hL => ⟨g, rfl, ?_, fun k => free_of hg k⟩⟩
    have hc : ∀ (j : Nat) (u : Value), (pkVals L)[j]? = some u → w.cell? ⟨g, j, none⟩ = some u := fun j u hj => by
      rw [cell_of hg, ← Array.getElem?_toList]
      rw [← ht, List.getElem?_take] at hj
      split at hj
      · exact hj
      · cases hj
    have hv : ∀ j, j < 5 → (pkVals L)[pre.length * 5 + j]? = (pkV q)[j]? := fun j hj => by
      have hr := row5 (L := L.map pkV) (fun x hx => by
        obtain ⟨p, _, rfl⟩ := List.mem_map.1 hx
        rfl) pre.length j hj
      rw [List.getElem?_map, hL, List.getElem?_append_right (Nat.le_refl _), Nat.sub_self] at hr
      rw [show pkVals L = (L.map pkV).flatten from List.flatMap_def, hL]
      exact hr
    exact ⟨hc _ _ (hv 0 (by omega)), hc _ _ (hv 1 (by omega)), hc _ _ (hv 2 (by omega)), hc _ _ (hv 3 (by omega)), hc _ _ (hv 4 (by omega))⟩

def blk (ad : Option Addr) : List Nat := (ad.map (·.block)).toList
theorem blk_mem {ad : Option Addr} {x : Nat} (h : x ∈ blk ad) : ∃ a, ad = some a ∧ a.block = x := by
  cases ad with
  | none => simp [blk] at h
  | some a => simp [blk] at h; exact ⟨a, rfl, h.symm⟩
/-- A row has turned, but not from cell n on. -/
def Upd (ad : Option Addr) (w4 wv : World) (n : Nat) : Prop :=
  Same (blk ad) w4 wv ∧ ∀ g, ad = some ⟨g, 0, none⟩ → (∀ k, n ≤ k → wv.cell? ⟨g, k, none⟩ = w4.cell? ⟨g, k, none⟩) ∧ ∀ k, wv.frozen? ⟨g, k, none⟩ = w4.frozen? ⟨g, k, none⟩
theorem Upd.start (ad : Option Addr) (w : World) (n : Nat) : Upd ad w w n := ⟨Same.refl _ _, fun g _ => ⟨fun _ _ => rfl, fun _ => rfl⟩⟩

theorem two_cells {w : World} {g o : Nat} {q : PkD} (h : PdCells w g o q) (a b : Value) :
    ((((w.setCell ⟨g, o, none⟩ a).setCell ⟨g, o + 2, none⟩ b).cell? ⟨g, o, none⟩ = some a ∧ ((w.setCell ⟨g, o, none⟩ a).setCell ⟨g, o + 2, none⟩ b).cell? ⟨g, o + 1, none⟩ = some (.bool q.st) ∧ ((w.setCell ⟨g, o, none⟩ a).setCell ⟨g, o + 2, none⟩ b).cell? ⟨g, o + 2, none⟩ = some b ∧
      ((w.setCell ⟨g, o, none⟩ a).setCell ⟨g, o + 2, none⟩ b).cell? ⟨g, o + 3, none⟩ = some (.bool q.bad) ∧ ((w.setCell ⟨g, o, none⟩ a).setCell ⟨g, o + 2, none⟩ b).cell? ⟨g, o + 4, none⟩ = some (.string q.body))) ∧
    (∀ k, o + 5 ≤ k → ((w.setCell ⟨g, o, none⟩ a).setCell ⟨g, o + 2, none⟩ b).cell? ⟨g, k, none⟩ = w.cell? ⟨g, k, none⟩) ∧ ∀ k, ((w.setCell ⟨g, o, none⟩ a).setCell ⟨g, o + 2, none⟩ b).frozen? ⟨g, k, none⟩ = w.frozen? ⟨g, k, none⟩ := by
  obtain ⟨c0, c1, c2, c3, c4⟩ := h
  have out : ∀ (W : World) (o' : Nat) (u : Value) (k : Nat), k ≠ o' → (W.setCell ⟨g, o', none⟩ u).cell? ⟨g, k, none⟩ = W.cell? ⟨g, k, none⟩ := fun W o' u k hk =>
    World.cell?_setCells_out g [u] o' W ⟨g, k, none⟩ (fun _ _ => by show k < o' ∨ o' + 1 ≤ k; omega)
  have inn : ∀ (W : World) (o' : Nat) (u x : Value), W.cell? ⟨g, o', none⟩ = some x → (W.setCell ⟨g, o', none⟩ u).cell? ⟨g, o', none⟩ = some u := fun W o' u x hx =>
    World.cell?_setCells_in g [u] o' W (fun j hj => by simp at hj; subst hj; rw [Nat.add_zero, hx]; rfl) 0 (by simp)
  refine ⟨⟨?_, ?_, ?_, ?_, ?_⟩, fun k hk => ?_, fun k => ?_⟩
  · rw [out _ _ _ _ (by omega)]; exact inn _ _ _ _ c0
  · rw [out _ _ _ _ (by omega), out _ _ _ _ (by omega)]; exact c1
  · exact inn _ _ _ _ ((out _ _ _ _ (by omega)).trans c2)
  · rw [out _ _ _ _ (by omega), out _ _ _ _ (by omega)]; exact c3
  · rw [out _ _ _ _ (by omega), out _ _ _ _ (by omega)]; exact c4
  · rw [out _ _ _ _ (by omega), out _ _ _ _ (by omega)]
  · exact (World.frozen?_setCells g [b] (o + 2) _ _).trans (World.frozen?_setCells g [a] o w _)

set_option maxRecDepth 100000 in
set_option maxHeartbeats 8000000 in
theorem packs_ok (pid count : Int) (L : List ByteArray) (v : Value) (w : World) (hr : StrsAt w v L) (hb : fewF L = true) (h0 : 0 ≤ pid) (h1 : pid ≤ 8190) (h2 : 0 ≤ count) (h3 : count ≤ 15) (hgd : ∀ x ∈ L, Good x) :
    Calls Try.prog 6 #[.int .i64 pid, .int .i64 count, v] w (AwakePost w) := by
  obtain ⟨hf1, hf2⟩ := fewF_yes hb
  have HFE := Lib.hid (fewF_is L _ hb v w hr)
  have hcz : (catL L).size ≤ 1500 * L.length := by
    clear hr hb hgd HFE
    revert hf1
    generalize hn : L = M
    clear hn hf2
    intro hf1
    induction M with
    | nil => exact Nat.le_refl _
    | cons x M ih =>
      have := ih (fun y hy => hf1 y (List.mem_cons_of_mem _ hy))
      have := hf1 x List.mem_cons_self
      rw [catL, ByteArray.size_append, List.length_cons]; omega
  have HPK := Lib.hid (pack_ok pid count L v w h0 h1 h2 h3 hr hgd (by omega))
  have HR := Lib.hid hr
  obtain ⟨ad, c, rfl, hc1, hc2, hc3⟩ := hr
  have hbd := fun W (h : StrsAt W (.slice ad L.length c) L) => bodies_any L (.slice ad L.length c) W h (by omega) (by omega)
  have hpz := pack_len (catL L).size ⟨#[]⟩ L
  rw [nil_append] at hpz
  generalize packG (catL L).size ⟨#[]⟩ L = PK at HPK hbd hpz
  have hpn : PK.length ≤ 90000 := by omega
  have HBD := Lib.hid hbd
  have HC := Lib.hid hc3; have HF1 := Lib.hid hf1; have HGD := Lib.hid hgd
  have g0 : ¬ pid < 0 := by omega
  have g1 : ¬ (8190 : Int) < pid := by omega
  have g2 : ¬ count < 0 := by omega
  have g3 : ¬ (15 : Int) < count := by omega
  clear hb hc3 hf1 hgd hbd hpz hcz
  go_enter Try.func6, Try.ntmps6
  go_wp2_with fail
  (with_reducible refine HFE.out.mono ?_)
  rintro e w0 ⟨rfl, rfl⟩
  clear HFE
  go_wp2_with fail
  (with_reducible refine HPK.out.mono ?_)
  rintro e w1 ⟨v2, rfl, o2, fr2, s1⟩
  obtain ⟨ad2, c2, rfl, p1, p2, p3⟩ := row_pd o2
  have hnl := numbP_length pid count 0 PK
  rw [hnl] at p1 ⊢
  have hfg : ∀ (done : List (Bool × ByteArray)) (p : Bool × ByteArray) (rest : List (Bool × ByteArray)), PK = done ++ p :: rest → ∃ g, ad2 = some ⟨g, 0, none⟩ ∧ PdCells w1 g (done.length * 5) ⟨pid, p.1, (count + (done.length : Int)) % 16, false, p.2⟩ := fun done p rest hP => by
    obtain ⟨g, rfl, hc⟩ := p3 (numbP pid count 0 done) ⟨pid, p.1, (count + ((0 + done.length : Nat) : Int)) % 16, false, p.2⟩ (numbP pid count (0 + done.length + 1) rest) (by rw [hP, numbP_append, numbP])
    rw [numbP_length, Nat.zero_add] at hc
    exact ⟨g, rfl, hc⟩
  have HFG := Lib.hid hfg
  have S1 := Lib.hid s1
  clear s1 HPK o2 fr2 p3 hnl hfg
  go_wp2_with fail
  go_loopw [10, 11, 12] (fun s10 s11 s12 wr => ∃ pre ls : List ByteArray, L = pre ++ ls ∧ s11 = .int .i64 ((pre.length : Int) - 1) ∧ s10 = .int .i64 0 ∧ Same [] w1 wr) (fun _ s11 _ _ => (intOf s11 + 1).toNat)
  case atStart => exact ⟨L, [], by simp, by go_num, rfl, Same.refl _ _⟩
  case round =>
    obtain ⟨pre, ls, hL, rfl, rfl, hsm⟩ := hrel
    have HS := Lib.hid hsm
    have hpl : pre.length ≤ L.length := by rw [hL]; simp
    clear hsm
    rcases split_last pre with rfl | ⟨pre', x, rfl⟩
    · clear hL hpl
      have hm1 : (((([] : List ByteArray).length : Nat) : Int) - 1) = -1 := rfl
      rw [hm1]
      have hneg : ¬ (0 : Int) ≤ -1 := by decide
      have hst := strs_same HR.out (S1.out.trans_nil HS.out)
      go_wp2_with fail
      (with_reducible refine (HBD.out _ hst).mono ?_)
      rintro e w4 ⟨vb, rfl, ob, fb, s4⟩
      obtain ⟨adb, cb, rfl, b1, b2, b3⟩ := row_pk ob
      have hrem : (count + (PK.length : Int)).tmod 16 = (count + (PK.length : Int)) % 16 := Int.tmod_eq_emod_of_nonneg (by omega)
      have hee : ((count + (PK.length : Int)) % 16 != (count + (PK.length : Int)) % 16) = false := by simp
      have hpp : ((PK.length : Int) != (PK.length : Int)) = false := by simp
      have HB3 := Lib.hid b3; have HFB := Lib.hid fb; have S4 := Lib.hid (HS.out.trans_nil s4)
      have HSZ := Lib.hid s4.size
      have hwz := HS.out.size
      clear hst ob fb b3 s4 hm1 hneg
      go_wp2_with fail
      go_loopw [14] (fun s14 wv => ∃ done todo : List (Bool × ByteArray), PK = done ++ todo ∧ s14 = .int .i64 done.length ∧ Upd adb w4 wv (done.length * 5)) (fun s14 _ => PK.length - (intOf s14).toNat)
      case atStart => exact ⟨[], PK, rfl, rfl, Upd.start _ _ _⟩
      case round =>
        obtain ⟨done, todo, hP, rfl, hupd⟩ := hrel
        have hdl : done.length ≤ PK.length := by rw [hP]; simp
        cases todo with
        | nil =>
          have hP2 : PK = done := by rw [hP]; simp
          subst hP2
          have hlt2 : ¬ (PK.length : Int) < (PK.length : Int) := by omega
          have HS9 := Lib.hid (hupd.1)
          clear hP hupd
          go_wp2_with (go_at_call 21; (with_reducible refine (awake15 _).mono ?_); rintro e w' ⟨rfl, hs⟩; have HA9 := Lib.hid hs; clear hs)
          go_ret
          refine ⟨rfl, ((S1.out.trans_nil S4.out).trans HS9.out (fun x hx hlt => ?_)).trans_nil HA9.out⟩
          exfalso
          obtain ⟨a, ha, rfl⟩ := blk_mem hx
          have := HFB.out a.block (by rw [ha]; rfl)
          have := S1.out.size
          omega
        | cons p todo =>
          have hlen : done.length < PK.length := by rw [hP]; simp
          have hlt2 : (done.length : Int) < (PK.length : Int) := by omega
          obtain ⟨ga, rfl, hca⟩ := HFG.out done p todo hP
          obtain ⟨gb, rfl, hcb, hfb⟩ := HB3.out done p todo hP
          have hga : ga < w1.heap.size := World.block_lt_of_cell? w1 _ hca.1
          have hgb := HFB.out gb rfl
          obtain ⟨st, body⟩ := p
          simp only at hca hcb
          obtain ⟨hs5, hkeep⟩ := hupd
          obtain ⟨hk1, hk2⟩ := hkeep gb rfl
          have hs5' : Same [gb] w4 wr := hs5
          have hca5 : PdCells wr ga (done.length * 5) ⟨pid, st, (count + (done.length : Int)) % 16, false, body⟩ := (hca.same S4.out (by simp)).same hs5' (by simp; omega)
          have hcb5 : PdCells wr gb (done.length * 5) ⟨0, st, 0, false, body⟩ := ⟨(hk1 _ (by omega)).trans hcb.1, (hk1 _ (by omega)).trans hcb.2.1, (hk1 _ (by omega)).trans hcb.2.2.1, (hk1 _ (by omega)).trans hcb.2.2.2.1, (hk1 _ (by omega)).trans hcb.2.2.2.2⟩
          have HP2 := Lib.hid hP
          have hnn : 0 ≤ count + (done.length : Int) := by omega
          have hrm : (count + (done.length : Int)).tmod 16 = (count + (done.length : Int)) % 16 := Int.tmod_eq_emod_of_nonneg hnn
          obtain ⟨d0, d1, d2, d3, d4⟩ := id hcb5
          simp only at d0 d1 d2 d3 d4
          have f0 : wr.frozen? ⟨gb, done.length * 5, none⟩ = false := (hk2 _).trans (hfb _)
          have f2 : wr.frozen? ⟨gb, done.length * 5 + 2, none⟩ = false := (hk2 _).trans (hfb _)
          have HCA := Lib.hid hca5; have HCB := Lib.hid hcb5; have HS5 := Lib.hid hs5'; have HK1 := Lib.hid hk1; have HK2 := Lib.hid hk2
          have hne : ga ≠ gb := by omega
          clear hP hca hcb hfb hs5 hkeep hk1 hk2 hs5' hca5 hcb5
          go_upto_region 25 with fail
          obtain ⟨x1, x2, x3⟩ := two_cells HCB.out (.int .i64 pid) (.int .i64 ((count + (done.length : Int)) % 16))
          have hs6 : Same [gb] wr ((wr.setCell ⟨gb, done.length * 5, none⟩ (.int .i64 pid)).setCell ⟨gb, done.length * 5 + 2, none⟩ (.int .i64 ((count + (done.length : Int)) % 16))) := ((Same.refl [gb] wr).setCell (by simp) _).setCell (by simp) _
          generalize (wr.setCell ⟨gb, done.length * 5, none⟩ (.int .i64 pid)).setCell ⟨gb, done.length * 5 + 2, none⟩ (.int .i64 ((count + (done.length : Int)) % 16)) = W5 at x1 x2 x3 hs6 ⊢
          have x1' : PdCells W5 gb (done.length * 5) ⟨pid, st, (count + (done.length : Int)) % 16, false, body⟩ := x1
          have ha6 := HCA.out.same hs6 (by simp; omega)
          generalize hcc : (count + (done.length : Int)) % 16 = cc at x1' ha6 ⊢
          have HX1 := Lib.hid x1'; have HA6 := Lib.hid ha6; have HX2 := Lib.hid x2; have HX3 := Lib.hid x3; have HS6 := Lib.hid hs6
          clear x1 x2 x3 hs6 d0 d1 d2 d3 d4 f0 f2 hrm hnn hcc
          obtain ⟨a0, a1, a2, a3, a4⟩ := ha6
          obtain ⟨d0, d1, d2, d3, d4⟩ := x1'
          simp only at a0 a1 a2 a3 a4 d0 d1 d2 d3 d4
          go_cut [128] (fun s128 wx => s128 = .bool false ∧ Same [] W5 wx)
          case first =>
            go_region_with (go_at_call 13; (with_reducible refine (plain_any pid st cc false body _).mono ?_); rintro e w' ⟨rfl, hs⟩; have hq : Same [] W5 w' := ((Same.refl [] W5).drew).trans_nil hs; obtain ⟨e0, e1, e2, e3, e4⟩ := HX1.out.same hq (by simp); simp only at e0 e1 e2 e3 e4; have HQ := Lib.hid hq; clear hs hq)
            all_goals
              go_wp2_with fail
              go_meet
              refine ⟨rfl, ?_⟩
              repeat (first | exact HQ.out | refine Same.drew ?_ | refine Same.alloc ?_ _)
          obtain ⟨rfl, hs7⟩ := hcut
          have HS7 := Lib.hid hs7
          clear hs7 a0 a1 a2 a3 a4 d0 d1 d2 d3 d4
          go_wp2_with fail
          go_roundw
          case rel =>
            refine ⟨done ++ [(st, body)], todo, by rw [HP2.out]; simp, by simp, ?_, ?_⟩
            · exact (HS5.out.trans HS6.out (fun x hx _ => hx)).trans_nil HS7.out
            · intro g hg
              cases hg
              rw [List.length_append]
              refine ⟨fun k hk => ?_, fun k => ?_⟩
              · have hlt9 : gb < W5.heap.size := World.block_lt_of_cell? W5 _ HX1.out.1
                have e7 := World.cell?_of_block (a := ⟨gb, k, none⟩) (HS7.out.block gb hlt9 (by simp))
                rw [e7, HX2.out k (by simp at hk; omega)]
                exact HK1.out k (by simp at hk; omega)
              · have hlt9 : gb < W5.heap.size := World.block_lt_of_cell? W5 _ HX1.out.1
                have e7 := World.frozen?_of_block (a := ⟨gb, k, none⟩) (HS7.out.block gb hlt9 (by simp))
                rw [e7, HX3.out k]
                exact HK2.out k
          case measure => simp [intOf]; omega
    · have hlen : pre'.length < L.length := by rw [hL]; simp
      have hlt : (pre'.length : Int) < (L.length : Int) := by omega
      have hi : (((pre' ++ [x]).length : Nat) : Int) - 1 = (pre'.length : Int) := by simp
      rw [hi]
      have hge : (0 : Int) ≤ (pre'.length : Int) := by omega
      have hL2 : L = pre' ++ x :: ls := by rw [hL]; simp
      obtain ⟨g, o, rfl, hx0⟩ := suffix_cell HC.out hL2
      have hx := (S1.out.trans_nil HS.out).cell hx0 (by simp)
      have hxz := HF1.out x (by rw [hL2]; simp)
      have hr := fun W => rpkcheck_any x W (by omega); have hp := fun W => pkcheck_any x W (by omega)
      rw [good_chk (HGD.out x (by rw [hL2]; simp))] at hr hp
      have HRC := Lib.hid hr; have HP := Lib.hid hp
      have HL2 := Lib.hid hL2
      have HX0 := Lib.hid hx0
      clear hL hL2 hx0 hi hpl hr hp
      go_wp2_with fail
      (with_reducible refine (HRC.out _).mono ?_)
      rintro e w2 ⟨rfl, s2⟩
      have S2 := Lib.hid (HS.out.trans_nil s2)
      clear s2 hx
      have hx := (S1.out.trans_nil S2.out).cell HX0.out (by simp)
      go_wp2_with fail
      (with_reducible refine (HP.out _).mono ?_)
      rintro e w3 ⟨rfl, s3⟩
      have S3 := Lib.hid (S2.out.trans_nil s3)
      clear s3 hx
      go_wp2_with fail
      go_roundw
      case rel => exact ⟨pre', x :: ls, by rw [HL2.out], rfl, rfl, S3.out⟩
      case measure => simp [intOf]

theorem packerPacks_any (pid count : Int) (v : Value) (L : List ByteArray) (w : World) (hr : StrsAt w v L) :
    Calls Try.prog 6 #[.int .i64 pid, .int .i64 count, v] w (AwakePost w) := by
  cases hf : fewF L with
  | false => exact packs_out pid count L v w hr hf
  | true =>
    by_cases h : pid < 0 ∨ 8190 < pid ∨ count < 0 ∨ 15 < count
    · exact packs_bad pid count L 15 v w hr hf (by decide) (.inl ⟨h, rfl⟩)
    · by_cases he : errS L = 0
      · exact packs_ok pid count L v w hr hf (by omega) (by omega) (by omega) (by omega) (errS_zero he)
      · exact packs_bad pid count L (errS L) v w hr hf he (.inr ⟨h, rfl⟩)

end Go.Proofs.Ytpnbhgmcfooppaa
