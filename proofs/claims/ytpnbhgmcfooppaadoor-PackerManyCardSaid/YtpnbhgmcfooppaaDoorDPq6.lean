/- The packets of a section that ends with a packet's end, and of those behind it, in plain Lean. No condition but that sections have bytes. -/
import Derived.Test.YtpnbhgmcfooppaaDoorDPq5
namespace Go.Proofs.YtpnbhgmcfooppaaDoor
open Go.RowKit
set_option linter.unusedSimpArgs false
set_option linter.unusedVariables false

/-- Fuel does not count where it is enough. -/
theorem pack_fuel : ∀ (k k' : Nat) (t : ByteArray) (l : List ByteArray), (∀ x ∈ l, 0 < x.size) → (t ++ catL l).size ≤ k → (t ++ catL l).size ≤ k' → packG k t l = packG k' t l
  | 0, k', t, l, hp, h, h' => by rw [pack_nil 0 (by omega), pack_nil k' (by omega)]
  | k + 1, 0, t, l, hp, h, h' => by rw [pack_nil (k + 1) (by omega), pack_nil 0 (by omega)]
  | k + 1, k' + 1, t, l, hp, h, h' => by
    by_cases h0 : (t ++ catL l).size = 0
    · rw [pack_nil _ h0, pack_nil _ h0]
    · rw [pack_next hp h0, pack_next hp h0]
      obtain ⟨n1, n2, n3⟩ := next_size t l h0 hp
      rw [pack_fuel k k' _ _ (fun x hx => hp x (n3 x hx)) (by omega) (by omega)]

/-- What is left of a section fills whole packets: then those behind it are packed as by themselves. -/
theorem rest_app : ∀ (q : Nat) (t : ByteArray) (l : List ByteArray), t.size = 184 * q → (∀ x ∈ l, 0 < x.size) → ∀ k, (t ++ catL l).size ≤ k →
    packG k t l = packG k t [] ++ packG k ⟨#[]⟩ l
  | 0, t, l, hq, hp, k, hk => by
    obtain rfl := empty_of (by omega : t.size = 0)
    rw [pack_nil k (t := ⟨#[]⟩) (l := []) (by rfl), List.nil_append]
  | q + 1, t, l, hq, hp, k, hk => by
    have hsz : (t ++ catL l).size = t.size + (catL l).size := ByteArray.size_append
    have hsz0 : (t ++ catL []).size = t.size := by rw [catL, append_nil]
    obtain ⟨k', rfl⟩ : ∃ k', k = k' + 1 := ⟨k - 1, by omega⟩
    rw [pack_rest k' (l := l) (by omega) (by omega), pack_rest k' (l := []) (by omega) (by omega)]
    have hm : min t.size 184 = 184 := by omega
    rw [hm]
    have hz : (t.extract 184 t.size).size = 184 * q := by rw [ByteArray.size_extract]; omega
    rw [rest_app q (t.extract 184 t.size) l hz hp k' (by rw [ByteArray.size_append]; omega)]
    rw [pack_fuel k' (k' + 1) ⟨#[]⟩ l hp (by rw [nil_append]; omega) (by rw [nil_append]; omega)]
    rfl
theorem sum_app (h : ByteArray) (l : List ByteArray) (q : Nat) (hq : h.size = 183 + 184 * q) (hp : ∀ x ∈ l, 0 < x.size) :
    packG (catL (h :: l)).size ⟨#[]⟩ (h :: l) = packG (catL [h]).size ⟨#[]⟩ [h] ++ packG (catL l).size ⟨#[]⟩ l := by
  have hs : ∀ x ∈ h :: l, 0 < x.size := fun x hx => by
    rcases List.mem_cons.1 hx with rfl | hx
    · omega
    · exact hp x hx
  have hs1 : ∀ x ∈ [h], 0 < x.size := fun x hx => by rw [List.mem_singleton.1 hx]; omega
  have hc : (catL (h :: l)).size = h.size + (catL l).size := ByteArray.size_append
  have hc1 : (catL [h]).size = h.size := by rw [catL_one]
  obtain ⟨K, hK⟩ : ∃ K, (catL (h :: l)).size = K + 1 := ⟨(catL (h :: l)).size - 1, by omega⟩
  rw [hK]
  rw [pack_fuel (catL [h]).size (K + 1) ⟨#[]⟩ [h] hs1 (by rw [nil_append]; omega) (by rw [nil_append]; omega)]
  rw [pack_fuel (catL l).size K ⟨#[]⟩ l hp (by rw [nil_append]; omega) (by rw [nil_append]; omega)]
  have hne : ∀ m, ¬ ((⟨#[]⟩ : ByteArray) ++ catL (h :: m)).size = 0 := fun m => by rw [nil_append, catL, ByteArray.size_append]; omega
  have hmin : ∀ m, min 183 ((⟨#[]⟩ : ByteArray) ++ catL (h :: m)).size = 183 := fun m => by rw [nil_append, catL, ByteArray.size_append]; omega
  have hb : ∀ m, packG (K + 1) ⟨#[]⟩ (h :: m) = (true, fillG (strOfNums [0] ++ h.extract 0 183)) :: packG K (advG (h :: m) 183).1 (advG (h :: m) 183).2 := fun m => by
    rw [pack_begin K (hne m) (by show ¬ 183 ≤ 0; omega) (fun e => e.1 rfl), hmin m]
    have he : ((⟨#[]⟩ : ByteArray) ++ catL (h :: m)).extract 0 183 = h.extract 0 183 := by
      rw [nil_append, catL, extract_left _ _ _ (by omega)]
    rw [he]; rfl
  rw [hb l, hb []]
  have ha : ∀ m, packG K (advG (h :: m) 183).1 (advG (h :: m) 183).2 = packG K (h.extract 183 h.size) m := fun m => by
    by_cases hq0 : q = 0
    · have h183 : h.size = 183 := by omega
      have e1 : h.extract 183 h.size = ⟨#[]⟩ := by rw [h183]; exact ByteArray.extract_same
      have e2 : advG (h :: m) 183 = (⟨#[]⟩, m) := by
        rw [advG, if_neg (by omega), if_neg (by omega), h183]; exact adv_zero m
      rw [e1, e2]
    · have e2 : advG (h :: m) 183 = (h.extract 183 h.size, m) := by
        rw [advG, if_neg (by omega), if_pos (by omega)]
      rw [e2]
  rw [ha l, ha []]
  have hz : (h.extract 183 h.size).size = 184 * q := by rw [ByteArray.size_extract]; omega
  rw [rest_app q _ l hz hp K (by rw [ByteArray.size_append]; omega)]
  rfl

end Go.Proofs.YtpnbhgmcfooppaaDoor
