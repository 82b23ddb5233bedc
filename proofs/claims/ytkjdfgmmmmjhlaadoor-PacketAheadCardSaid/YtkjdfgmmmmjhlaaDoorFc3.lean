/- packet.Find and the reference's. Condition: fewer than 2^39 bytes. -/
import Derived.Test.YtkjdfgmmmmjhlaaDoorFc2
namespace Go.Proofs.YtkjdfgmmmmjhlaaDoor
open Go.RowKit
set_option linter.unusedSimpArgs false
set_option linter.unusedVariables false

/-- Do packets stand at k? -/
def RightS (s : ByteArray) (k : Nat) : Prop := ∀ i, k + 188 * i < s.size → byteOf s (k + 188 * i) = 71
theorem size_piece (s : ByteArray) (i : Nat) (h : i < s.size / 188) : (piece s i).size = 188 := by unfold piece; rw [ByteArray.size_extract]; omega
theorem piece_b0 (s : ByteArray) (i : Nat) (h : i < s.size / 188) : byteOf (piece s i) 0 = byteOf s (188 * i) := by
  unfold piece
  rw [byteOf_ext _ _ _ _ (by omega) (by omega), Nat.add_zero]
theorem right_iff (s : ByteArray) (k : Nat) (hk : k ≤ s.size) (t rest : ByteArray) (ht : t = s.extract k s.size) (hr : rest = t.extract (188 * (t.size / 188)) t.size) :
    RightS s k ↔ (∀ p, p ∈ pieces t → byteOf p 0 = 71) ∧ (rest.size = 0 ∨ byteOf rest 0 = 71) := by
  have hz : t.size = s.size - k := by rw [ht, ByteArray.size_extract]; omega
  have hb : ∀ i, k + i < s.size → byteOf t i = byteOf s (k + i) := fun i hi => by rw [ht, byteOf_ext _ _ _ _ hi (Nat.le_refl _)]
  have hrz : rest.size = t.size - 188 * (t.size / 188) := by rw [hr, ByteArray.size_extract]; omega
  constructor
  · intro h
    refine ⟨fun p hp => ?_, ?_⟩
    · obtain ⟨i, hi, rfl⟩ := List.mem_map.1 hp
      rw [List.mem_range] at hi
      rw [piece_b0 _ _ hi, hb _ (by omega)]
      exact h i (by omega)
    · by_cases h0 : rest.size = 0
      · exact .inl h0
      · right
        rw [hr, byteOf_ext _ _ _ _ (by omega) (Nat.le_refl _), Nat.add_zero, hb _ (by omega)]
        exact h _ (by omega)
  · rintro ⟨h1, h2⟩ i hi
    by_cases hi2 : i < t.size / 188
    · have := h1 (piece t i) (List.mem_map.2 ⟨i, List.mem_range.2 hi2, rfl⟩)
      rw [piece_b0 _ _ hi2, hb _ (by omega)] at this
      exact this
    · have hi3 : i = t.size / 188 := by omega
      rcases h2 with h2 | h2
      · omega
      · rw [hr, byteOf_ext _ _ _ _ (by omega) (Nat.le_refl _), Nat.add_zero, hb _ (by omega)] at h2
        rw [hi3]; exact h2

theorem wrong_no (p : ByteArray) (w : World) (h : p.size ≠ 0) (hb : byteOf p 0 = 71) : Calls Tryd.prog 28 #[.string p] w fun e w' => e = .returned (.bool false) ∧ w = w' := by
  have hp : 0 < p.size := by omega
  have hpi : (0 : Int) < (p.size : Int) := by omega
  have hb0 := byteOf_at p 0 hp
  rw [hb] at hb0
  go_enter Tryd.func28, Tryd.ntmps28
  go_wp2_with fail
  go_ret
  exact ⟨rfl, rfl⟩
theorem wrong_yes (p : ByteArray) (w : World) (h : p.size ≠ 0) (hb : byteOf p 0 ≠ 71) : Calls Tryd.prog 28 #[.string p] w fun e w' => e = .returned (.bool true) ∧ w = w' := by
  have hp : 0 < p.size := by omega
  have hpi : (0 : Int) < (p.size : Int) := by omega
  have hb0 := byteOf_at p 0 hp
  have hne : (((byteOf p 0 : Nat) : Int) != 71) = true := by simp; omega
  go_enter Tryd.func28, Tryd.ntmps28
  go_wp2_with fail
  go_ret
  exact ⟨rfl, rfl⟩

/-- What IndexFunc answers. -/
def IdxPost (w : World) (L : List ByteArray) (e : Ending) (w' : World) : Prop := ∃ r : Int, e = .returned (.int .i64 r) ∧ w = w' ∧ (0 ≤ r ↔ ∃ p, p ∈ L ∧ byteOf p 0 ≠ 71)
set_option maxHeartbeats 1000000 in
theorem indexFunc_any (v : Value) (L : List ByteArray) (w : World) (hr : Reads w 1 v L.length (strValP L)) (hn : ∀ p, p ∈ L → p.size ≠ 0) (hl : L.length < 1099511627776) :
    Calls Tryd.prog 41 #[v, .func (.func 28) #[] #[]] w (IdxPost w L) := by
  by_cases h0 : L.length = 0
  · have hv : ∃ a c, v = .slice a 0 c := by
      rcases hr.2 with ⟨a, c, h1, _⟩ | ⟨h1, h2⟩
      · exact ⟨_, _, by rw [h1, h0]⟩
      · exact ⟨none, 0, h1⟩
    obtain ⟨a, c, rfl⟩ := hv
    have hL : L = [] := List.eq_nil_of_length_eq_zero h0
    subst hL
    clear hr h0
    go_enter Tryd.func41, Tryd.ntmps41
    go_wp2_with fail
    refine wp_loop_rounds 1 ?_
    rw [rounds_succ]
    go_wp2_with fail
    go_ret
    exact ⟨_, rfl, rfl, by simp⟩
  · have hv : ∃ g o c, v = .slice (some ⟨g, o, none⟩) L.length c ∧ ∀ j (hj : j < L.length), w.cell? ⟨g, o + j, none⟩ = some (.string L[j]) := by
      rcases hr.2 with ⟨a, c, rfl, hs, _, hc⟩ | ⟨_, h9⟩
      · obtain ⟨g, o, sp⟩ := a
        simp only at hs; subst hs
        refine ⟨g, o, c, rfl, fun j hj => ?_⟩
        have := hc j (.string L[j]) (by simp [strValP, hj])
        rwa [addr_add] at this
      · exact absurd h9 h0
    obtain ⟨g, o, c, rfl, hc⟩ := hv
    clear hr
    go_enter Tryd.func41, Tryd.ntmps41
    go_wp2_with fail
    go_loopw [8] (fun i wr => ∃ k : Nat, k ≤ L.length ∧ i = .int .i64 k ∧ (∀ j p, j < k → L[j]? = some p → byteOf p 0 = 71) ∧ w = wr) (fun i _ => L.length - (intOf i).toNat)
    case atStart => exact ⟨0, Nat.zero_le _, rfl, fun j p hj => by omega, rfl⟩
    case round =>
      obtain ⟨k, hk, rfl, hj, rfl⟩ := hrel
      have HJ := Lib.hid hj
      clear hj
      by_cases hlt : k < L.length
      · have ck := hc k hlt
        have hnk := hn L[k] (List.getElem_mem hlt)
        obtain ⟨q, hq⟩ : ∃ q, L[k] = q := ⟨_, rfl⟩
        rw [hq] at ck hnk
        have HC := Lib.hid hc; have HN := Lib.hid hn
        clear hc hn
        by_cases hb : byteOf q 0 = 71
        · go_wp2_with (go_at_call 28; (with_reducible refine (wrong_no _ _ hnk hb).mono ?_); rintro e w' ⟨rfl, rfl⟩)
          go_roundw
          case rel =>
            refine ⟨k + 1, hlt, by go_num, fun j p hj9 hp => ?_, trivial⟩
            by_cases h9 : j = k
            · subst h9
              rw [List.getElem?_eq_getElem hlt, hq] at hp
              cases hp; exact hb
            · exact HJ.out j p (by omega) hp
          case measure => simp [intOf]; omega
        · go_wp2_with (go_at_call 28; (with_reducible refine (wrong_yes _ _ hnk hb).mono ?_); rintro e w' ⟨rfl, rfl⟩)
          go_ret
          exact ⟨_, rfl, rfl, by
            constructor
            · intro _
              exact ⟨q, by rw [← hq]; exact List.getElem_mem hlt, hb⟩
            · intro _; omega⟩
      · obtain rfl : k = L.length := by omega
        go_wp2_with fail
        go_ret
        refine ⟨_, rfl, rfl, ?_⟩
        constructor
        · intro h9; omega
        · rintro ⟨p, hp, hb⟩
          obtain ⟨j, hj9, rfl⟩ := List.getElem_of_mem hp
          exact absurd (HJ.out j _ hj9 (List.getElem?_eq_getElem hj9)) hb

theorem contains_any (v : Value) (L : List ByteArray) (w : World) (hr : Reads w 1 v L.length (strValP L)) (hn : ∀ p, p ∈ L → p.size ≠ 0) (hl : L.length < 1099511627776) (b : Bool) (hb : (∃ p, p ∈ L ∧ byteOf p 0 ≠ 71) ↔ b = true) :
    Calls Tryd.prog 29 #[v, .func (.func 28) #[] #[]] w fun e w' => e = .returned (.bool b) ∧ w = w' := by
  go_enter Tryd.func29, Tryd.ntmps29
  go_wp2_with (go_at_call 41; (with_reducible refine (indexFunc_any _ _ _ hr hn hl).mono ?_); rintro e w' ⟨r, rfl, rfl, hrr⟩)
  go_ret
  exact ⟨rfl, rfl⟩

/-- What Find answers. -/
def FindPost (w : World) (s : ByteArray) (e : Ending) (w' : World) : Prop := Same [] w w' ∧
  ((∃ k, k < 188 ∧ k < s.size ∧ RightS s k ∧ (∀ j, j < k → ¬ RightS s j) ∧ e = .returned (.tuple #[.int .i64 (k : Int), .int .i64 0])) ∨
   ((∀ j, j < 188 → j < s.size → ¬ RightS s j) ∧ e = .returned (.tuple #[.int .i64 0, .int .i64 18])))

set_option maxRecDepth 100000 in
set_option maxHeartbeats 4000000 in
theorem find_any (s : ByteArray) (w : World) (hs : s.size < 549755813888) : Calls Tryd.prog 17 #[.string s] w (FindPost w s) := by
  obtain ⟨M, hM⟩ : ∃ M : Nat, min 188 s.size = M := ⟨_, rfl⟩
  have hMi : min (188 : Int) (s.size : Int) = (M : Int) := by omega
  have hMs : M ≤ s.size := by omega
  go_enter Tryd.func17, Tryd.ntmps17
  go_wp2_with fail
  go_loopw [11] (fun i wr => ∃ k : Nat, k ≤ M ∧ i = .int .i64 k ∧ (∀ j, j < k → ¬ RightS s j) ∧ Same [] w wr) (fun i _ => M - (intOf i).toNat)
  case atStart => exact ⟨0, Nat.zero_le _, rfl, fun j hj => by omega, Same.refl _ _⟩
  case round =>
    obtain ⟨k, hk, rfl, hj, hsm⟩ := hrel
    have HJ := Lib.hid hj; have HS := Lib.hid hsm
    clear hj hsm
    by_cases hlt : k < M
    · have hks : (k : Int) ≤ (s.size : Int) := by omega
      obtain ⟨t, ht⟩ : ∃ t, t = s.extract k s.size := ⟨_, rfl⟩
      obtain ⟨rest, hrest⟩ : ∃ rest, rest = t.extract (188 * (t.size / 188)) t.size := ⟨_, rfl⟩
      have hiff := right_iff s k (by omega) t rest ht hrest
      have htz : t.size ≤ s.size := by rw [ht, ByteArray.size_extract]; omega
      have hcut := cut_any t
      unfold CutPost at hcut
      rw [← hrest] at hcut
      have hpn : ∀ p, p ∈ pieces t → p.size ≠ 0 := fun p hp => by
        obtain ⟨i, hi, rfl⟩ := List.mem_map.1 hp
        rw [size_piece _ _ (List.mem_range.1 hi)]; omega
      have hpl : (pieces t).length = t.size / 188 := by unfold pieces; rw [List.length_map, List.length_range]
      have HCUT := Lib.hid hcut; have HIFF := Lib.hid hiff; have HPN := Lib.hid hpn; have HPL := Lib.hid hpl; have HTZ := Lib.hid htz
      clear hcut hiff hrest hpn hpl htz
      replace ht := ht.symm
      go_wp2_with fail
      (with_reducible refine (HCUT.out _ (by have := HTZ.out; omega)).mono ?_)
      rintro e w1 ⟨v, rfl, hrd, s1⟩
      rw [← HPL.out] at hrd
      have S1 := Lib.hid (HS.out.trans_nil s1)
      have CN := Lib.hid (fun b hb => contains_any v (pieces t) w1 hrd HPN.out (by have := HPL.out; have := HTZ.out; omega) b hb)
      clear hrd s1 HS
      by_cases hA : ∃ p, p ∈ pieces t ∧ byteOf p 0 ≠ 71
      · have CON := Lib.hid (CN.out true (by simp [hA]))
        have HNR := Lib.hid (show ¬ RightS s k from fun h9 => by
          obtain ⟨p, hp, hb⟩ := hA
          exact hb ((HIFF.out.1 h9).1 p hp))
        clear hA CN
        · go_wp2_with (go_at_call 29; (with_reducible refine (CON.out).mono ?_); rintro e w' ⟨rfl, rfl⟩)
          go_roundw
          case rel =>
            refine ⟨k + 1, hlt, by go_num, fun j hj9 => ?_, S1.out⟩
            by_cases h9 : j = k
            · subst h9; exact HNR.out
            · exact HJ.out j (by omega)
          case measure => simp [intOf]; omega
      · have CON := Lib.hid (CN.out false (by simp only [hA]; simp))
        have hall : ∀ p, p ∈ pieces t → byteOf p 0 = 71 := fun p hp => by
          by_cases h9 : byteOf p 0 = 71
          · exact h9
          · exact absurd ⟨p, hp, h9⟩ hA
        have HALL := Lib.hid hall
        clear hA CN hall
        by_cases h0 : rest.size = 0
        · have he : rest.toList.isEmpty = true := by rw [ByteArray.toList_eq, List.isEmpty_iff, ← List.length_eq_zero_iff, Array.length_toList]; exact h0
          have HYR := Lib.hid (HIFF.out.2 ⟨HALL.out, .inl h0⟩)
          go_wp2_with (go_at_call 29; (with_reducible refine (CON.out).mono ?_); rintro e w' ⟨rfl, rfl⟩)
          go_ret2
          exact ⟨S1.out, .inl ⟨k, by omega, by omega, HYR.out, HJ.out, rfl⟩⟩
        · have he : rest.toList.isEmpty = false := by rw [ByteArray.toList_eq, ← Bool.not_eq_true, List.isEmpty_iff, ← List.length_eq_zero_iff, Array.length_toList]; exact h0
          by_cases hb : byteOf rest 0 = 71
          · have HYR := Lib.hid (HIFF.out.2 ⟨HALL.out, .inr hb⟩)
            go_wp2_with (first | (go_at_call 29; (with_reducible refine (CON.out).mono ?_); rintro e w' ⟨rfl, rfl⟩) | (go_at_call 28; (with_reducible refine (wrong_no _ _ h0 hb).mono ?_); rintro e w' ⟨rfl, rfl⟩))
            go_ret2
            exact ⟨S1.out, .inl ⟨k, by omega, by omega, HYR.out, HJ.out, rfl⟩⟩
          · have HNR := Lib.hid (show ¬ RightS s k from fun h9 => by
              rcases (HIFF.out.1 h9).2 with h8 | h8
              · exact h0 h8
              · exact hb h8)
            go_wp2_with (first | (go_at_call 29; (with_reducible refine (CON.out).mono ?_); rintro e w' ⟨rfl, rfl⟩) | (go_at_call 28; (with_reducible refine (wrong_yes _ _ h0 hb).mono ?_); rintro e w' ⟨rfl, rfl⟩))
            go_roundw
            case rel =>
              refine ⟨k + 1, hlt, by go_num, fun j hj9 => ?_, S1.out⟩
              by_cases h9 : j = k
              · subst h9; exact HNR.out
              · exact HJ.out j (by omega)
            case measure => simp [intOf]; omega
    · obtain rfl : k = M := by omega
      go_wp2_with fail
      go_ret2
      exact ⟨HS.out, .inr ⟨fun j h1 h2 => HJ.out j (by omega), rfl⟩⟩

end Go.Proofs.YtkjdfgmmmmjhlaaDoor
