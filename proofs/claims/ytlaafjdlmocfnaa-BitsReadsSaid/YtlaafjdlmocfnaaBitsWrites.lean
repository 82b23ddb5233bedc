/- The walk of the law BitsWrites: whatever calls, it answers true. No condition. -/
import Derived.Test.YtlaafjdlmocfnaaBitsAwake
namespace Go.Proofs.Ytlaafjdlmocfnaa
open Go.RowKit
set_option linter.unusedSimpArgs false
set_option linter.unusedVariables false

def bitsTo (ops : List OpD) (k : Nat) : List Bool := (ops.take k).flatMap opBits
theorem bitsTo_succ (ops : List OpD) (k : Nat) (h : k < ops.length) : bitsTo ops (k + 1) = bitsTo ops k ++ opBits ops[k] := by
  unfold bitsTo; rw [List.take_add_one, List.getElem?_eq_getElem h]; simp only [List.flatMap_append, Option.toList, List.flatMap_cons, List.flatMap_nil, List.append_nil]
theorem length_opBits (o : OpD) (h : o.s.size ≤ 60) : (opBits o).length ≤ 480 := by
  unfold opBits; split
  · rw [length_ofStr]; omega
  · split
    · rw [length_bitsOf]; omega
    · simp
theorem length_bitsTo (ops : List OpD) (hf : fewB ops = true) (k : Nat) (hk : k ≤ ops.length) : (bitsTo ops k).length ≤ 480 * k := by
  induction k with
  | zero => simp [bitsTo]
  | succ k ih =>
    have hlt : k < ops.length := by omega
    rw [bitsTo_succ ops k hlt, List.length_append]
    have hs : (ops[k]).s.size ≤ 60 := by
      simp only [fewB, Bool.and_eq_true, List.all_eq_true, decide_eq_true_eq] at hf
      exact hf.1 _ (List.getElem_mem hlt)
    have := length_opBits ops[k] hs
    have := ih (by omega)
    omega
theorem few_of {ops : List OpD} (hf : fewB ops = true) : ops.length ≤ 60 ∧ ∀ (k : Nat) (h : k < ops.length), (ops[k]).s.size ≤ 60 := by
  simp only [fewB, Bool.and_eq_true, List.all_eq_true, decide_eq_true_eq] at hf
  exact ⟨hf.2, fun k h => hf.1 _ (List.getElem_mem h)⟩

/-- A writer's blocks are none of a row of bools. -/
theorem out_apart {W : World} {b : Nat} {r : Option Nat} {l : List Bool} {v : Value} {n : Nat} {xs : List Value} (hO : IsOut W b r l) (hv : W.ownsRow 0 4 1 v n xs) :
    ∀ k, v.ownBlock = some k → k ∉ b :: r.toList := by
  intro k hk hm
  obtain ⟨v0, h1, h2, h3, h4⟩ := hO
  rcases hv.2 with ⟨rfl, _⟩ | ⟨g, cap, cur, rfl, _, hg, _⟩
  · cases hk
  · cases hk
    simp only [List.mem_cons, Option.mem_toList] at hm
    rcases hm with rfl | hm
    · rw [h1] at hg; cases hg
    · rw [hm] at h3
      rcases h2.2 with ⟨rfl, _⟩ | ⟨g', cap', cur', rfl, _, hg', _⟩
      · cases h3
      · cases h3; rw [hg'] at hg; cases hg

def AllOwn (w W : World) (v : Value) (l : List Bool) : Prop := W.ownsRow 0 4 1 v l.length (bools l) ∧ (∀ k, v.ownBlock = some k → w.heap.size ≤ k)
structure WInv (w W : World) (b : Nat) (v : Value) (l : List Bool) : Prop where
  out : ∃ r, IsOut W b r l ∧ (∀ k, r = some k → w.heap.size ≤ k)
  own : AllOwn w W v l
  same : Same [] w W
  hb : w.heap.size ≤ b

theorem WInv.written {w W W1 : World} {b : Nat} {v : Value} {l l' : List Bool} {r : Option Nat} (h : WInv w W b v l) (hr : ∀ k, r = some k → w.heap.size ≤ k) (hO : IsOut W b r l) (hs : OutStep W b r l' W1) :
    (∃ r, IsOut W1 b r l' ∧ (∀ k, r = some k → w.heap.size ≤ k)) ∧ AllOwn w W1 v l ∧ Same [] w W1 := by
  obtain ⟨r1, h1, h2, h3⟩ := hs
  have hsz := h.same.size
  refine ⟨⟨r1, h1, fun k hk => ?_⟩, ⟨own_same h.own.1 h2 (out_apart hO h.own.1), h.own.2⟩, h.same.trans h2 (fun x hx hlt => ?_)⟩
  · rcases h3 k hk with h | h
    · exact hr k h
    · omega
  · simp only [List.mem_cons, Option.mem_toList] at hx
    rcases hx with rfl | hx
    · have := h.hb; omega
    · have := hr x hx; omega

/-- After the append: the row's value is a slice of its length, and the writer stands. -/
structure Both (w W : World) (b : Nat) (r : Option Nat) (n c : Nat) (ad : Option Addr) (l : List Bool) : Prop where
  out : IsOut W b r l
  rb : ∀ k, r = some k → w.heap.size ≤ k
  own : W.ownsRow 0 4 1 (.slice ad n c) n (bools l)
  fresh : ∀ k, (Value.slice ad n c).ownBlock = some k → w.heap.size ≤ k
  same : Same [] w W
  hb : w.heap.size ≤ b
  len : l.length = n

theorem Both.inv {w W W1 : World} {b : Nat} {r : Option Nat} {n c : Nat} {ad : Option Addr} {l : List Bool} (h : Both w W b r n c ad l) (hs : Same [] W W1) : WInv w W1 b (.slice ad n c) l :=
  ⟨⟨r, h.out.same hs (by simp) (fun k _ => by simp), h.rb⟩, ⟨by have := own_same h.own hs (fun k _ => by simp); rw [h.len]; exact this, h.fresh⟩, h.same.trans_nil hs, h.hb⟩

theorem both_of {w w2 w3 : World} {b : Nat} {r : Option Nat} {v v' : Value} {l m : List Bool} (hO : IsOut w2 b r (l ++ m)) (hr : ∀ k, r = some k → w.heap.size ≤ k) (hS : Same [] w w2) (hb : w.heap.size ≤ b)
    (hD : w2.ownsRow 0 4 1 v l.length (bools l)) (hf : ∀ k, v.ownBlock = some k → w.heap.size ≤ k)
    (hown : w3.ownsRow 0 4 1 v' (l.length + m.length) (bools l ++ bools m)) (hg : w2.grownBy w3 v.ownBlock) (hat : v'.ownBlock = v.ownBlock ∨ v'.ownBlock = some w2.heap.size) :
    ∃ ad c, v' = .slice ad (l ++ m).length c ∧ Both w w3 b r (l ++ m).length c ad (l ++ m) := by
  have hll : l.length + m.length = (l ++ m).length := by simp
  rw [hll] at hown
  have hs3 := Same.of_grown hg
  have hap := out_apart hO hD
  have hsz := hS.size
  have hsh : ∃ ad c, v' = .slice ad (l ++ m).length c := by
    rcases hown.2 with ⟨rfl, h0⟩ | ⟨g, cap, cur, rfl, _⟩
    · exact ⟨none, 0, by rw [h0]⟩
    · exact ⟨_, _, rfl⟩
  obtain ⟨ad, c, rfl⟩ := hsh
  refine ⟨ad, c, rfl, hO.same hs3 (fun h => hap b (by simpa using h) (by simp)) (fun k hk h => hap k (by simpa using h) (by simp [hk])), hr, ?_, ?_, ?_, hb, rfl⟩
  · rw [show bools (l ++ m) = bools l ++ bools m by simp [bools]]; exact hown
  · intro k hk
    rcases hat with h | h
    · rw [h] at hk; exact hf k hk
    · rw [h] at hk; cases hk; exact hsz
  · exact hS.trans hs3 (fun x hx hlt => by have := hf x (by simpa using hx); omega)

theorem bytes_eqself (s : ByteArray) : (s.toList == s.toList) = true := by simp

/-- The element's cells, in the round's world. -/
theorem ops_cells {w W : World} {v : Value} {ops : List OpD} (h : OpsAt w v ops) (hs : Same [] w W) : OpsAt W v ops := by
  obtain ⟨ad, c, rfl, h1, h2, h3⟩ := h
  refine ⟨ad, c, rfl, h1, h2, fun i hi => ?_⟩
  obtain ⟨a, ha, hsp, hok, k0, k1, k2, k3⟩ := h3 i hi
  exact ⟨a, ha, hsp, hok, hs.cell k0 (by simp), hs.cell k1 (by simp), hs.cell k2 (by simp), hs.cell k3 (by simp)⟩

theorem bitsWrites_many (v : Value) (ops : List OpD) (w : World) (h : OpsAt w v ops) (hf : fewB ops = false) :
    Calls Try.prog 3 #[v] w (AwakePost w) := by
  have H := Lib.hid h
  clear h
  go_enter Try.func3, Try.ntmps3
  go_wp2_with (first | (go_at_call 9; refine (few_any _ _ _ H.out).mono ?_; rintro e w' ⟨rfl, rfl⟩) | (go_at_call 10; refine (awake_any _).mono ?_; rintro e w' ⟨rfl, hs⟩; have HS := Lib.hid hs; clear hs))
  go_ret
  exact ⟨rfl, HS.out⟩

set_option maxHeartbeats 4000000 in
theorem bitsWrites_few (v : Value) (ops : List OpD) (w : World) (h : OpsAt w v ops) (hf : fewB ops = true) :
    Calls Try.prog 3 #[v] w (AwakePost w) := by
  have H := Lib.hid h
  have FF := Lib.hid (few_of hf)
  have HFB := Lib.hid hf
  obtain ⟨ad, c, rfl, hlc, hcm, _⟩ := h
  have hn60 := FF.out.1
  unfold maxLen at hcm
  obtain ⟨i0, hi, hz0, hz1, hz2⟩ := info_parts Try.infoT
  go_enter Try.func3, Try.ntmps3
  go_wp2_with (go_at_call 9; refine (few_any _ _ _ H.out).mono ?_; rintro e w' ⟨rfl, rfl⟩)
  have hinv0 : WInv w (w.alloc (.cells #[.slice none 0 0, .int .i64 0] 27)) w.heap.size (.slice none 0 0) [] :=
    ⟨⟨none, ⟨.slice none 0 0, World.alloc_heap_new _ _, World.ownsRow_nil _ _ _ _, rfl, by simp⟩, fun k hk => by cases hk⟩, ⟨World.ownsRow_nil _ _ _ _, fun k hk => by cases hk⟩, (Same.refl _ w).alloc _, Nat.le_refl _⟩
  have HI0 := Lib.hid (show WInv w _ w.heap.size (.slice none 0 0) (bitsTo ops 0) by rw [show bitsTo ops 0 = [] by simp [bitsTo]]; exact hinv0)
  clear hinv0 hf
  go_loopw [5, 4, 6, 7, 2] (fun i u e z y wr => ∃ (k : Nat) (v : Value), k ≤ ops.length ∧ i = .int .i64 k ∧ v = u ∧ WInv w wr w.heap.size v (bitsTo ops k)) (fun i _ _ _ _ _ => ops.length - (intOf i).toNat)
  case atStart => exact ⟨0, _, Nat.zero_le _, rfl, rfl, HI0.out⟩
  case round =>
    obtain ⟨k, v, hk, rfl, rfl, hinv⟩ := hrel
    have HV := Lib.hid hinv
    clear hinv
    by_cases hlt : k < ops.length
    · obtain ⟨ad', c', hv', _, _, hcells⟩ := ops_cells H.out HV.out.same
      cases hv'
      obtain ⟨a, rfl, hsp, hok, k0, k1, k2, k3⟩ := hcells k hlt
      obtain ⟨g, o, sp⟩ := a
      simp only at hsp; subst hsp
      have hss := FF.out.2 k hlt
      have hbl := length_bitsTo ops HFB.out k hk
      have hbl2 := length_opBits ops[k] hss
      have hbs := bitsTo_succ ops k hlt
      have HBS := Lib.hid hbs; have HOK := Lib.hid hok; have HSS := Lib.hid hss
      clear hbs hok hss hcells
      generalize hop : ops[k] = op at *
      have HOP := Lib.hid hop
      clear hop
      obtain ⟨r, hO, hr⟩ := HV.out.out
      have hW := fun W h => write_ok wr w.heap.size r (bitsTo ops k) op W h HOK.out HSS.out (by omega)
      have HWR := Lib.hid hW; have HO := Lib.hid hO; have HR := Lib.hid hr
      clear hW hO hr
      go_wp2_with fail
      refine (HWR.out wr (OutStep.refl HO.out)).mono ?_
      rintro e w1 ⟨rfl, hst⟩
      have hnx := HV.out.written HR.out HO.out hst
      have hc1 := ops_cells H.out hnx.2.2
      have HNX := Lib.hid hnx
      clear hst hnx
      obtain ⟨ad', c', hv', _, _, hcells⟩ := hc1
      cases hv'
      obtain ⟨a, ha, hsp, hok, j0, j1, j2, j3⟩ := hcells k hlt
      cases ha
      rw [HOP.out] at j0 j1 j2 j3
      clear hcells hsp hok k0 k1 k2 k3
      have hcs : (op.t = true ∧ opErr op = 0) ∨ (op.t = false ∧ op.n < 0 ∧ opErr op = 1) ∨ (op.t = false ∧ 64 < op.n ∧ opErr op = 1) ∨ (op.t = false ∧ 0 ≤ op.n ∧ op.n ≤ 64 ∧ opErr op = 0) := by
        unfold opErr
        cases ht : op.t with
        | true => left; exact ⟨rfl, rfl⟩
        | false =>
          right
          by_cases h1 : op.n < 0
          · left; refine ⟨rfl, h1, ?_⟩; rw [if_neg (by decide), if_neg (by omega)]
          · by_cases h2 : 64 < op.n
            · right; left; refine ⟨rfl, h2, ?_⟩; rw [if_neg (by decide), if_neg (by omega)]
            · right; right; refine ⟨rfl, by omega, by omega, ?_⟩; rw [if_neg (by decide), if_pos (by omega)]
      obtain ⟨r1, hO1, hr1⟩ := HNX.out.1
      have HO1 := Lib.hid hO1; have HR1 := Lib.hid hr1
      clear hO1 hr1
      have hTD := told_ok op w1 HOK.out HSS.out
      have HTD := Lib.hid hTD
      clear hTD
      rcases hcs with ⟨ht, he⟩ | ⟨ht, hn, he⟩ | ⟨ht, hn, he⟩ | ⟨ht, hn, hn2, he⟩
      all_goals
        go_wp2_with fail
        have hTD := HTD.out
        rw [ht] at hTD
        refine hTD.mono ?_
        rintro e w2 ⟨v2, rfl, hnb, hs2⟩
        have hsrc : Reads w2 1 v2 (opBits op).length (bools (opBits op)) := Reads.of_own hnb.1
        have hdst := own_same HNX.out.2.1.1 hs2 (fun k hk => by simp)
        have HO2 := Lib.hid (HO1.out.same hs2 (by simp) (fun k _ => by simp))
        have HS2 := Lib.hid (HNX.out.2.2.trans_nil hs2)
        have HD2 := Lib.hid hdst
        have hbsz : w.heap.size < w2.heap.size := HO2.out.lt.1
        clear hnb hs2 hTD
        go_wp2_with (at_builtin; refine wpList_append_src rfl (.tmp 45) (.tmp 50) 28 rfl 0 4 i0 (.bool false) 1 1 Try.underlying28 hi hz0 hz1 hz2 rfl (by decide) v _ _ rfl hdst v2 _ _ rfl hsrc (one_bools _) (by unfold maxLen; omega) (by omega) (by simp) ?_; intro v' w3 hown hgrow hat; have HOWN := Lib.hid hown; have HG := Lib.hid hgrow; have HAT := Lib.hid hat; clear hown hgrow hat hsrc hdst)
        obtain ⟨ad2, c2, rfl, hboth⟩ := both_of HO2.out HR1.out HS2.out (Nat.le_refl _) HD2.out HNX.out.2.1.2 HOWN.out HG.out HAT.out
        rw [← HBS.out] at hboth ⊢
        have HB := Lib.hid hboth
        have hln : (bitsTo ops (k + 1)).length < 1099511627776 := by rw [HBS.out, List.length_append]; omega
        have HLN := Lib.hid hln
        have hself := bytes_eqself (strOf (pack (bitsTo ops (k + 1))))
        clear hboth hln HOWN HG HAT HO2 HS2 HD2
        go_wp2_with (first
          | (go_at_call 13; refine (len_ok _ _ _ _ HB.out.out).mono ?_; rintro e w4 ⟨rfl, rfl⟩)
          | (go_at_call 14; refine (out_string _ _ _ _ HB.out.out HLN.out).mono ?_; rintro e w4 ⟨rfl, rfl⟩)
          | (go_at_call 15; refine (rbytes_ok _ _ _ (Reads.of_own HB.out.own) HLN.out (own_lt HB.out.own)).mono ?_; rintro e w4 ⟨rfl, hs4⟩; have HS4 := Lib.hid hs4; clear hs4))
        go_roundw
        case rel => exact ⟨k + 1, _, by omega, by go_num, rfl, HB.out.inv HS4.out⟩
        case measure => simp [intOf]; omega
    · obtain rfl : k = ops.length := by omega
      go_wp2_with (go_at_call 10; refine (awake_any _).mono ?_; rintro e w' ⟨rfl, hs⟩; have HS := Lib.hid hs; clear hs)
      go_ret
      exact ⟨rfl, HV.out.same.trans_nil HS.out⟩

theorem bitsWrites_any (v : Value) (ops : List OpD) {w : World} (h : OpsAt w v ops) :
    Calls Try.prog 3 #[v] w (AwakePost w) := by
  cases hf : fewB ops with
  | true => exact bitsWrites_few v ops w h hf
  | false => exact bitsWrites_many v ops w h hf

end Go.Proofs.Ytlaafjdlmocfnaa
