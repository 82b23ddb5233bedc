/- Word, Short, and the chapter's examples. Condition: the reach of strings. Slices of numbers as arguments, and what the law RsApart says. No condition. Room and places of mend. No condition. -/
import Derived.Test.YtpkpfebhdgbgbaaGreatDoorTFRs5
import Derived.Deep.RegionLaw
namespace Go.Proofs.YtpkpfebhdgbgbaaGreatDoor
open Go.RowKit
set_option linter.unusedSimpArgs false
set_option linter.unusedVariables false

def parS (s : ByteArray) : ByteArray := bs (par (lb s))
theorem parS_size (s : ByteArray) : (parS s).size = 64 := by unfold parS; rw [size_bs, par_length]
def wordS (s : ByteArray) : ByteArray := s ++ parS s
theorem wordS_size (s : ByteArray) (h : s.size = 191) : (wordS s).size = 255 := by unfold wordS; rw [ByteArray.size_append, parS_size, h]
theorem lb_wordS (s : ByteArray) : lb (wordS s) = lb s ++ par (lb s) := by unfold wordS parS; rw [lb_append, lb_bs]
theorem wordS_isW (s : ByteArray) (h : s.size = 191) : IsW (lb (wordS s)) := by rw [lb_wordS]; exact word_is _ (by rw [lb_length, h])
theorem wordS_is (s : ByteArray) (h : s.size = 191) : isB (wordS s) = true := isB_true.2 (wordS_isW s h)

theorem enc_k (s : ByteArray) (w : World) (hs : s.size = 191) :
    Calls Tryz.prog 78 #[.string s] w (Ret (.tuple #[.string (parS s), .int .i64 0]) w) := enc_ok s w hs
theorem fullS_app (s : ByteArray) (n : Nat) (h : s.size ≤ n) : s ++ zerosS (n - s.size) = fullS s n := by
  unfold fullS fullL zerosS; rw [lb_length, if_neg (by omega), ← lb_inj, lb_append, lb_bs, lb_bs]
theorem par_zeros (n : Nat) : par (List.replicate n 0) = List.replicate 64 0 := by
  induction n with
  | zero => rfl
  | succ n ih =>
    rw [List.replicate_succ', par_snoc, ih]
    refine List.ext_getElem (by rw [nxt_length]; simp) fun i h1 h2 => ?_
    have hc : ∀ j, cf (List.replicate 64 0) j = 0 := fun j => by rw [cf_zeros]; rfl
    rw [List.getElem_replicate, ← cf_lt h1]
    unfold nxt
    rw [cf_ofF, hc, hc, xself, zero_gm, xself, ite_self]
theorem parS_zeros (n : Nat) : parS (zerosS n) = zerosS 64 := by unfold parS zerosS; rw [lb_bs, par_zeros]
theorem is_zeros : isB (zerosS 255) = true := isB_true.2 (by
  unfold zerosS; rw [lb_bs]; exact ⟨List.length_replicate, fun n _ => hv_zeros 255 (ex n)⟩)
def Zn (n : Nat) : Array Value := Array.replicate n (.int .u8 0)
theorem zn_list (n : Nat) : (Zn n).toList = u8l (List.replicate n 0) := by unfold Zn u8l; rw [Array.toList_replicate, List.map_replicate]; rfl
theorem conv_n {n : Nat} (hn : n < 1000) {W w2 : World} (hs : Same [] (W.alloc (.cells (Zn n) 5)) w2) : (convert 33 9 (.slice (some ⟨W.heap.size, 0, none⟩) n n)).run Tryz.prog w2 = .ok (.string (zerosS n)) w2 := by
  have h : (W.alloc (.cells (Zn n) 5)).ownsRow 0 5 1 (.slice (some ⟨W.heap.size, 0, none⟩) n n) n (Zn n).toList := row_new W (Zn n) 5 n (by simp [Zn]) (by unfold maxLen; omega)
  rw [zn_list] at h
  exact OwnB.str (B := 0) (l := List.replicate n 0) (by unfold OwnB; rw [List.length_replicate]; exact own_same h hs (fun _ _ => by simp))
end Go.Proofs.YtpkpfebhdgbgbaaGreatDoor
namespace Go.Proofs.YtpkpfebhdgbgbaaGreatDoor
open Go.RowKit
set_option linter.unusedSimpArgs false
set_option linter.unusedVariables false

/-- A slice of numbers. -/
def NumsAt (w : World) (v : Value) (xs : List Int) : Prop :=
  ∃ ad c, v = .slice ad xs.length c ∧ xs.length ≤ c ∧ c ≤ maxLen ∧ ∀ (i : Nat) (h : i < xs.length), ∃ a : Addr, ad = some a ∧ a.spot = none ∧ w.cell? ⟨a.block, a.off + i, none⟩ = some (.int .i64 xs[i])
theorem rowF_set {w : World} {v : Value} {g : Nat} {l : List UInt8} (h : RowF w v g (u8l l)) (i : Nat) (hi : i < l.length) (x : UInt8) : RowF (w.setCell ⟨g, i, none⟩ (.int .u8 (x.toNat : Int))) v g (u8l (l.set i x)) := by
  obtain ⟨cap, rfl, h1, h2, h3, h4⟩ := h
  have hcell : ∀ j, (w.setCell ⟨g, i, none⟩ (.int .u8 (x.toNat : Int))).cell? ⟨g, j, none⟩ = if j = i then some (.int .u8 (x.toNat : Int)) else w.cell? ⟨g, j, none⟩ := fun j => by
    rw [u8l_length] at h1
    obtain ⟨u, hu⟩ := Option.isSome_iff_exists.1 (h4 i (by omega)).1
    obtain ⟨cells, t, fz, hb⟩ : ∃ cells t fz, w.heap[g]? = some (.cells cells t fz) := by
      unfold World.cell? at hu
      simp only at hu
      split at hu
      · rename_i c t f hh; exact ⟨_, _, _, hh⟩
      · cases hu
    rw [cell_of (set_same hb _), cell_of hb]
    by_cases e : j = i
    · subst e
      rw [if_pos rfl, Array.getElem?_setIfInBounds_self_of_lt]
      rw [cell_of hb] at hu
      exact (Array.getElem?_eq_some_iff.1 hu).1
    · rw [if_neg e, Array.getElem?_setIfInBounds_ne (by omega)]
  refine ⟨cap, by simp [u8l], by simpa [u8l] using h1, h2, fun j u hj => ?_, fun j hj => ?_⟩
  · rw [hcell]
    have hjl : j < l.length := by have := (List.getElem?_eq_some_iff.1 hj).1; simpa [u8l] using this
    by_cases e : j = i
    · subst e
      rw [if_pos rfl, ← hj]
      simp [u8l, u8v, hjl]
    · rw [if_neg e]
      refine h3 j u ?_
      rw [← hj]
      simp only [u8l, List.getElem?_map]
      rw [List.getElem?_set_ne (by omega)]
  · constructor
    · rw [hcell]; split
      · rfl
      · exact (h4 j hj).1
    · rw [World.frozen?_setCell]; exact (h4 j hj).2
theorem same_word {L U : List UInt8} (hU : IsW U) (hl : L.length = 255) (S : List Nat) (hS : S.length ≤ 64) (h : ∀ j, j ∉ S → cf L j = cf U j) : isB (bs L) = decide (bs L = bs U) := by
  rw [Bool.eq_iff_iff, isB_true, decide_eq_true_eq, lb_bs, bs_inj]
  constructor
  · intro hL
    have hz := apart (word_xor hL hU) S hS (fun i hi hne => Decidable.byContradiction fun hm => hne (by
      unfold xorL; rw [cf_ofF, if_pos hi, h i hm, xself]))
    refine ext_cf (by rw [hl, hU.1]) ?_
    funext i
    by_cases hi : i < 255
    · have h1 := hz i
      unfold xorL at h1
      rw [cf_ofF, if_pos hi] at h1
      exact UInt8.xor_eq_zero_iff.1 h1
    · rw [cf_ge (by rw [hl]; omega), cf_ge (by rw [hU.1]; omega)]
  · rintro rfl; exact hU
/-- One place more is turned. -/
theorem turn_one {L : List UInt8} {U : Nat → UInt8} {xs : List Int} {k n : Nat} {z : UInt8} (hk : k < xs.length) (hx : xs[k] = (n : Int)) (hn : n < L.length) (h : ∀ j, j ∉ (xs.take k).map Int.toNat → cf L j = U j) :
    ∀ j, j ∉ (xs.take (k + 1)).map Int.toNat → cf (L.set n z) j = U j := by
  intro j hj
  rw [List.take_succ_eq_append_getElem hk, List.map_append, List.mem_append, not_or] at hj
  rw [cf_set hn]
  have hne : j ≠ n := by
    intro e
    apply hj.2
    rw [hx]
    simp [e]
  rw [if_neg hne]
  exact h j hj.1
end Go.Proofs.YtpkpfebhdgbgbaaGreatDoor
namespace Go.Proofs.YtpkpfebhdgbgbaaGreatDoor
open Go.RowKit
set_option linter.unusedSimpArgs false
set_option linter.unusedVariables false

def roomZ (n : Int) : Int := if n < 0 ∨ 64 < n then -1 else (64 - n) / 2
theorem room_any (n : Int) (w : World) : Calls Tryz.prog 34 #[.int .i64 n] w fun e w' => e = .returned (.int .i64 (roomZ n)) ∧ w = w' := by
  unfold roomZ
  by_cases h1 : n < 0
  · rw [if_pos (.inl h1)]
    go_enter Tryz.func34, Tryz.ntmps34
    go_wp2_with fail
    go_ret
    exact ⟨rfl, rfl⟩
  · by_cases h2 : 64 < n
    · rw [if_pos (.inr h2)]
      go_enter Tryz.func34, Tryz.ntmps34
      go_wp2_with fail
      go_ret
      exact ⟨rfl, rfl⟩
    · rw [if_neg (by omega)]
      obtain ⟨m, rfl⟩ : ∃ m : Nat, n = (m : Int) := ⟨n.toNat, by omega⟩
      obtain ⟨k, hk⟩ : ∃ k : Nat, (64 : Int) - (m : Int) = (k : Int) := ⟨64 - m, by omega⟩
      have hk64 : k ≤ 64 := by omega
      have hq : Int.tdiv (k : Int) 2 = ((k / 2 : Nat) : Int) := rfl
      rw [hk]
      go_enter Tryz.func34, Tryz.ntmps34
      go_wp2_with fail
      go_ret
      exact ⟨rfl, rfl⟩

/-- Numbers that are places, each once. -/
def GoodP (l : List Int) : Prop := (∀ x ∈ l, 0 ≤ x ∧ x ≤ 254) ∧ l.Nodup
instance (l : List Int) : Decidable (GoodP l) := inferInstanceAs (Decidable (_ ∧ _))
def seenL (l : List Int) : List Value := (List.range 255).map fun (j : Nat) => .bool (decide ((j : Int) ∈ l))
theorem seenL_length (l : List Int) : (seenL l).length = 255 := by unfold seenL; rw [List.length_map, List.length_range]
theorem seenL_get (l : List Int) (n : Nat) (h : n < (seenL l).length) : (seenL l)[n] = .bool (decide ((n : Int) ∈ l)) := by
  simp only [seenL, List.getElem_map, List.getElem_range]
theorem seenL_nil : seenL [] = List.replicate 255 (.bool false) := by
  refine List.ext_getElem (by rw [seenL_length, List.length_replicate]) fun i h1 h2 => ?_
  rw [List.getElem_replicate, seenL_get, decide_eq_false (by simp)]
theorem seenL_at (l : List Int) (n : Nat) (h : n < 255) : (seenL l).toArray[n]? = some (.bool (decide ((n : Int) ∈ l))) := by
  rw [List.getElem?_toArray, List.getElem?_eq_getElem (by rw [seenL_length]; exact h), seenL_get]
theorem seenL_set (l : List Int) (n : Nat) : (seenL l).set n (.bool true) = seenL (l ++ [(n : Int)]) := by
  refine List.ext_getElem (by rw [List.length_set, seenL_length, seenL_length]) fun i h1 h2 => ?_
  rw [List.getElem_set]
  by_cases hi : n = i
  · subst hi; rw [if_pos rfl, seenL_get, decide_eq_true (by simp)]
  · rw [if_neg hi, seenL_get, seenL_get]
    have hne : ¬ (i : Int) = (n : Int) := by omega
    congr 1
    simp [hne]
theorem good_snoc {xs : List Int} {k : Nat} (hk : k < xs.length) (h : GoodP (xs.take k)) (h0 : 0 ≤ xs[k] ∧ xs[k] ≤ 254) (h1 : xs[k] ∉ xs.take k) : GoodP (xs.take (k + 1)) := by
  rw [List.take_succ_eq_append_getElem hk]
  refine ⟨fun x hx => ?_, List.nodup_append.2 ⟨h.2, by simp, fun a ha b hb => ?_⟩⟩
  · rcases List.mem_append.1 hx with hx | hx
    · exact h.1 x hx
    · rw [List.mem_singleton] at hx; rw [hx]; exact h0
  · rw [List.mem_singleton] at hb
    rintro rfl
    exact h1 (hb ▸ ha)
theorem bad_range {xs : List Int} {k : Nat} (hk : k < xs.length) (h0 : ¬ (0 ≤ xs[k] ∧ xs[k] ≤ 254)) : ¬ GoodP xs := fun h => h0 (h.1 _ (List.getElem_mem hk))
theorem bad_twice {xs : List Int} {k : Nat} (hk : k < xs.length) (h1 : xs[k] ∈ xs.take k) : ¬ GoodP xs := fun h => by
  obtain ⟨i, hi, e⟩ := List.mem_take_iff_getElem.1 h1
  exact List.pairwise_iff_getElem.1 h.2 i k (by omega) hk (by omega) e
set_option maxRecDepth 100000 in
set_option maxHeartbeats 4000000 in
theorem places_any (xs : List Int) (v : Value) (w : World) (hr : NumsAt w v xs) : Calls Tryz.prog 33 #[v] w (Ret (.bool (decide (GoodP xs))) w) := by
  obtain ⟨ad, cp, rfl, hlc, hcm, hcell⟩ := hr
  have HCELL := Lib.hid hcell
  have hml : xs.length ≤ 9223372036854775807 := Nat.le_trans hlc (Nat.le_trans hcm (by unfold maxLen; decide))
  obtain ⟨R, hR⟩ : ∃ R, R = w.heap.size := ⟨_, rfl⟩
  obtain ⟨q, hq⟩ : ∃ q, q = decide (GoodP xs) := ⟨_, rfl⟩
  have HR := Lib.hid hR; have HQ := Lib.hid hq
  rw [← hq]
  clear hcell hR hq
  have hz := (zero_of_info (P := Tryz.prog) (t := 164) (v := .agg (Array.replicate 255 (.bool false))) (n := 255) (by kernel_rfl)).1
  go_enter Tryz.func33, Tryz.ntmps33
  go_wp2_with fail
  have hb0 : (w.alloc (.cells (Array.replicate 255 (.bool false)) 164)).heap[R]? = some (.cells (seenL (xs.take 0)).toArray 164 (0, 0)) := by
    rw [HR.out, heap_alloc_new, List.take_zero, seenL_nil]
    congr 2
  have HB0 := Lib.hid hb0
  rw [← HR.out]
  clear hb0
  go_loopw [8] (fun i wr => ∃ k : Nat, k ≤ xs.length ∧ i = .int .i64 k ∧ GoodP (xs.take k) ∧ wr.heap[R]? = some (.cells (seenL (xs.take k)).toArray 164 (0, 0)) ∧ Same [] w wr) (fun i _ => xs.length - (intOf i).toNat)
  case atStart => exact ⟨0, Nat.zero_le _, rfl, ⟨fun x hx => by simp at hx, by simp⟩, HB0.out, (Same.refl [] w).alloc _⟩
  case round =>
    obtain ⟨k, hk, rfl, hg, hb, hsm⟩ := hrel
    have HG := Lib.hid hg; have HB := Lib.hid hb; have HS := Lib.hid hsm
    by_cases h1 : k < xs.length
    · have h1i : (k : Int) < (xs.length : Int) := by omega
      obtain ⟨ad', rfl, hsp, c0⟩ := HCELL.out k h1
      obtain ⟨g, o, sp⟩ := ad'
      simp only at hsp c0
      subst hsp
      obtain ⟨x, hx⟩ : ∃ x, x = xs[k] := ⟨_, rfl⟩
      rw [← hx] at c0
      have d0 := HS.out.cell c0 (by simp)
      have HX := Lib.hid hx
      clear c0 hg hb hsm hx
      by_cases hx0 : x < 0
      · have hqf : q = false := by rw [HQ.out]; exact decide_eq_false (bad_range h1 (by rw [← HX.out]; omega))
        go_wp2_with fail
        go_ret
        exact ⟨by first | rfl | (rw [hqf]; rfl), HS.out⟩
      · by_cases hx5 : 254 < x
        · have hqf : q = false := by rw [HQ.out]; exact decide_eq_false (bad_range h1 (by rw [← HX.out]; omega))
          go_wp2_with fail
          go_ret
          exact ⟨by first | rfl | (rw [hqf]; rfl), HS.out⟩
        · obtain ⟨n, rfl⟩ : ∃ n : Nat, x = (n : Int) := ⟨x.toNat, by omega⟩
          have hn : n < 255 := by omega
          have hni : (n : Int) < 255 := by omega
          have c1 := cell_of HB.out n
          rw [seenL_at _ n hn] at c1
          have f1 := free_of HB.out n
          by_cases hm : (n : Int) ∈ xs.take k
          · rw [decide_eq_true hm] at c1
            have hqf : q = false := by rw [HQ.out]; exact decide_eq_false (bad_twice h1 (by rw [← HX.out]; exact hm))
            clear hm
            go_wp2_with fail
            go_ret
            exact ⟨by first | rfl | (rw [hqf]; rfl), HS.out⟩
          · rw [decide_eq_false hm] at c1
            have HM := Lib.hid hm
            clear hm
            go_wp2_with fail
            have hs2 : Same [] w (wr.setCell ⟨R, n, none⟩ (.bool true)) := HS.out.setCell (fun h => absurd (show R < w.heap.size from h) (by rw [HR.out]; omega)) _
            go_roundw
            case rel =>
              refine ⟨k + 1, by omega, by go_num, good_snoc h1 HG.out (by rw [← HX.out]; omega) (by rw [← HX.out]; exact HM.out), ?_, hs2⟩
              refine (set_same HB.out _).trans ?_
              rw [List.take_succ_eq_append_getElem h1, ← HX.out, ← seenL_set _ n]
              congr 2
              apply Array.ext'
              simp
            case measure => simp [intOf]; omega
    · obtain rfl : k = xs.length := by omega
      have h1i : ¬ (xs.length : Int) < (xs.length : Int) := by omega
      have hqt : q = true := by rw [HQ.out]; refine decide_eq_true ?_; rw [List.take_length] at hg; exact hg
      clear hg hb hsm h1
      go_wp2_with fail
      go_ret
      exact ⟨by first | rfl | (rw [hqt]; rfl), HS.out⟩
end Go.Proofs.YtpkpfebhdgbgbaaGreatDoor
