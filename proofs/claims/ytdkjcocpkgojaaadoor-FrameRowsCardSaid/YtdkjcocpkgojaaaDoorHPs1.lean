/- Strings as polynomials: trimming, in the program and in the reference. Condition: the reach of a string. -/
import Derived.Test.YtdkjcocpkgojaaaDoorHGf3
import Derived.Test.YtdkjcocpkgojaaaDoorPo1
namespace Go.Proofs.YtdkjcocpkgojaaaDoor
open Go.RowKit
set_option linter.unusedSimpArgs false
set_option linter.unusedVariables false

/-- The bytes of a string. -/
def lb (s : ByteArray) : List UInt8 := s.data.toList
/-- The string of bytes. -/
def bs (l : List UInt8) : ByteArray := ⟨l.toArray⟩
theorem lb_bs (l : List UInt8) : lb (bs l) = l := rfl
theorem bs_lb (s : ByteArray) : bs (lb s) = s := ByteArray.ext (Array.toArray_toList)
theorem lb_length (s : ByteArray) : (lb s).length = s.size := by unfold lb; rw [Array.length_toList]; rfl
theorem size_bs (l : List UInt8) : (bs l).size = l.length := by simp [bs, ByteArray.size]
theorem lb_inj {a b : ByteArray} : lb a = lb b ↔ a = b := ⟨fun h => by rw [← bs_lb a, h, bs_lb], fun h => by rw [h]⟩
theorem bs_inj {a b : List UInt8} : bs a = bs b ↔ a = b := ⟨fun h => by rw [← lb_bs a, h, lb_bs], fun h => by rw [h]⟩
theorem bt_at (s : ByteArray) (i : Nat) (h : i < s.size) : (s[i]'h).toNat = (cf (lb s) i).toNat := by
  rw [cf_lt (by rw [lb_length]; exact h)]; rfl
theorem lb_extract (s : ByteArray) (a b : Nat) : lb (s.extract a b) = ((lb s).drop a).take (b - a) := by
  unfold lb
  rw [ByteArray.data_extract, Array.toList_extract]
theorem lb_prefix (s : ByteArray) (k : Nat) : lb (s.extract 0 k) = (lb s).take k := by rw [lb_extract]; simp
theorem lb_append (a b : ByteArray) : lb (a ++ b) = lb a ++ lb b := by unfold lb; rw [ByteArray.data_append, Array.toList_append]
def trimS (s : ByteArray) : ByteArray := bs (trimL (lb s))
theorem trimS_size (s : ByteArray) : (trimS s).size ≤ s.size := by
  unfold trimS; rw [size_bs, ← lb_length]; exact trim_length _
theorem trim_take {l : List UInt8} {k : Nat} (hk : k ≤ l.length) (hz : ∀ i, k ≤ i → cf l i = 0) (h : k = 0 ∨ cf l (k - 1) ≠ 0) : trimL l = l.take k := by
  have hc : cf (l.take k) = cf l := by
    funext i
    by_cases hi : i < k
    · rw [cf_lt (by simp; omega), cf_lt (by omega)]; simp
    · rw [cf_ge (by simp; omega), hz i (by omega)]
  rw [← trim_ext hc]
  refine trim_id ?_
  rcases h with h | h
  · left; subst h; simp
  · right; rw [hc, List.length_take, Nat.min_eq_left hk]; exact h
theorem extract_self (s : ByteArray) : s.extract 0 s.size = s := by rw [← lb_inj, lb_prefix, ← lb_length, List.take_length]
theorem trimS_extract {s : ByteArray} {k : Nat} (hk : k ≤ s.size) (hz : ∀ i, k ≤ i → cf (lb s) i = 0) (h : k = 0 ∨ cf (lb s) (k - 1) ≠ 0) : s.extract 0 k = trimS s := by
  rw [← lb_inj, lb_prefix]
  unfold trimS
  rw [lb_bs, trim_take (by rw [lb_length]; exact hk) hz h]
theorem extract_extract (s : ByteArray) (k m : Nat) (h : m ≤ k) : (s.extract 0 k).extract 0 m = s.extract 0 m := by
  rw [← lb_inj, lb_prefix, lb_prefix, lb_prefix, List.take_take, Nat.min_eq_left h]
theorem u8_zero {a : UInt8} (h : a = 0) : ((a.toNat : Int) == 0) = true := by subst h; rfl

set_option maxHeartbeats 1000000 in
theorem trimbyte_any (s : ByteArray) (w : World) (hs : s.size ≤ 9223372036854775807) :
    Calls Tryd.prog 64 #[.string s, .int .u8 0] w fun e w' => e = .returned (.string (trimS s)) ∧ w = w' := by
  go_enter Tryd.func64, Tryd.ntmps64
  go_wp2_with fail
  go_loop [0] (fun v => ∃ t : ByteArray, ∃ k : Nat, v = .string t ∧ t = s.extract 0 k ∧ k ≤ s.size ∧ ∀ i, k ≤ i → cf (lb s) i = 0) (fun v => match v with | .string t => t.size | _ => 0)
  case atStart => exact ⟨s, s.size, rfl, (extract_self s).symm, Nat.le_refl _, fun i hi => cf_ge (by rw [lb_length]; exact hi)⟩
  case round =>
    obtain ⟨t, k, rfl, ht, hk, hz⟩ := hrel
    have htk : t.size = k := by rw [ht, ByteArray.size_extract]; omega
    have HT := Lib.hid ht; have HZ := Lib.hid hz
    clear ht hz
    by_cases h0 : 0 < k
    · obtain ⟨m, rfl⟩ : ∃ m, k = m + 1 := ⟨k - 1, by omega⟩
      have hb := bt_at t m (by omega)
      have hc : cf (lb t) m = cf (lb s) m := by rw [HT.out, lb_prefix, cf_lt (by simp [lb_length]; omega), cf_lt (by rw [lb_length]; omega)]; simp
      rw [hc] at hb
      clear hc h0
      have hz1 : (0 : Int) < ((m + 1 : Nat) : Int) := by omega
      by_cases h1 : cf (lb s) m = 0
      · have h2 := u8_zero h1
        have H1 := Lib.hid h1
        clear h1
        go_wp2_with fail
        go_round
        case rel => exact ⟨_, m, rfl, by rw [HT.out]; exact extract_extract s (m + 1) m (by omega), by omega, fun i hi => by
          by_cases e : i = m
          · rw [e]; exact H1.out
          · exact HZ.out i (by omega)⟩
        case measure => show (t.extract 0 m).size < t.size; rw [ByteArray.size_extract]; omega
      · have h2 := u8_ne h1
        have H1 := Lib.hid h1
        clear h1
        go_wp2_with fail
        go_ret
        exact ⟨by rw [HT.out, trimS_extract (by omega) HZ.out (.inr (by rw [Nat.add_sub_cancel]; exact H1.out))]; rfl, rfl⟩
    · obtain rfl : k = 0 := by omega
      go_wp2_with fail
      go_ret
      exact ⟨by rw [HT.out, trimS_extract (by omega) HZ.out (.inl rfl)]; rfl, rfl⟩

theorem ne_empty (s : ByteArray) (h : ¬ s.size = 0) : s.toList.isEmpty = false ∧ (!s.toList.isEmpty) = true := by
  have : s.toList.isEmpty = false := by
    rw [ByteArray.toList_eq]
    have h1 : s.data.toList.length = s.size := by rw [Array.length_toList]; rfl
    cases hl : s.data.toList with
    | nil => rw [hl] at h1; simp at h1; omega
    | cons a l => rfl
  exact ⟨this, by rw [this]; rfl⟩
theorem is_empty (s : ByteArray) (h : s.size = 0) : s.toList.isEmpty = true ∧ (!s.toList.isEmpty) = false := by
  have : s.toList.isEmpty = true := by
    rw [ByteArray.toList_eq]
    have h1 : s.data.toList.length = s.size := by rw [Array.length_toList]; rfl
    cases hl : s.data.toList with
    | nil => rfl
    | cons a l => rw [hl] at h1; simp at h1; omega
  exact ⟨this, by rw [this]; rfl⟩
set_option maxRecDepth 20000 in
set_option maxHeartbeats 1000000 in
theorem trimright_any (s : ByteArray) (w : World) (hs : s.size ≤ 9223372036854775807) :
    Calls Tryd.prog 61 #[.string s, .string ⟨#[0]⟩] w fun e w' => e = .returned (.string (trimS s)) ∧ w = w' := by
  by_cases h : s.size = 0
  · have he : lb s = [] := List.eq_nil_of_length_eq_zero (by rw [lb_length, h])
    obtain rfl : s = ⟨#[]⟩ := lb_inj.1 he
    clear he h hs
    go_enter Tryd.func61, Tryd.ntmps61
    go_wp2_with fail
    go_ret
    exact ⟨rfl, rfl⟩
  · have h1 := (ne_empty s h).1
    have h0 : ((⟨#[(0 : UInt8)]⟩ : ByteArray)[0]'(by decide)).toNat = 0 := rfl
    go_enter Tryd.func61, Tryd.ntmps61
    go_wp2_with (first | (go_at_call 64; (with_reducible refine (trimbyte_any s _ hs).mono ?_); rintro e w' ⟨rfl, rfl⟩))
    go_ret
    exact ⟨rfl, rfl⟩

theorem trim_any (s : ByteArray) (w : World) (hs : s.size ≤ 9223372036854775807) :
    Calls Tryd.prog 58 #[.string s] w fun e w' => e = .returned (.string (trimS s)) ∧ w = w' := by
  go_enter Tryd.func58, Tryd.ntmps58
  go_wp2_with (first | (go_at_call 61; (with_reducible refine (trimright_any s _ hs).mono ?_); rintro e w' ⟨rfl, rfl⟩))
  go_ret
  exact ⟨rfl, rfl⟩
/-- The degree of a string. -/
def degS (s : ByteArray) : Int := (dl (lb s) : Int) - 1
theorem trimS_len (s : ByteArray) : (trimS s).size = dl (lb s) := by unfold trimS dl; rw [size_bs]
end Go.Proofs.YtdkjcocpkgojaaaDoor
