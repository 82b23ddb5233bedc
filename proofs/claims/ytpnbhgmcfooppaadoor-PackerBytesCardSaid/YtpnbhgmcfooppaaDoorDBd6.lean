/- The sections of bodies, and their packets with counts (packed). Conditions: up to 20 bodies, of up to 1400 bytes; the count is 0 to 15. -/
import Derived.Test.YtpnbhgmcfooppaaDoorDBd5
namespace Go.Proofs.YtpnbhgmcfooppaaDoor
open Go.RowKit
set_option linter.unusedSimpArgs false
set_option linter.unusedVariables false

theorem pack_len : ∀ (k : Nat) (t : ByteArray) (l : List ByteArray), (packG k t l).length ≤ (t ++ catL l).size
  | 0, t, l => Nat.zero_le _
  | k + 1, t, l => by
    by_cases h0 : (t ++ catL l).size = 0
    · rw [pack_nil _ h0]; exact Nat.zero_le _
    · by_cases h1 : 183 ≤ t.size
      · rw [pack_rest k h0 h1, List.length_cons]
        have ih := pack_len k (t.extract (min t.size 184) t.size) l
        rw [ByteArray.size_append, ByteArray.size_extract] at ih
        rw [ByteArray.size_append]
        omega
      · by_cases h2 : t.size ≠ 0 ∧ l = []
        · obtain ⟨h2, rfl⟩ := h2
          rw [pack_last k h2 h1, ByteArray.size_append, List.length_cons, List.length_nil]
          omega
        · rw [pack_begin k h0 h1 h2, List.length_cons]
          have hsz : (t ++ catL l).size = t.size + (catL l).size := ByteArray.size_append
          obtain ⟨n, hn⟩ : ∃ n, n = min 183 (t ++ catL l).size := ⟨_, rfl⟩
          rw [← hn]
          have ih := pack_len k (advG l (n - t.size)).1 (advG l (n - t.size)).2
          rw [adv_cat l (n - t.size) (by omega), ByteArray.size_extract] at ih
          omega

def PkdPost (w : World) (bodies : List ByteArray) (count : Int) (e : Ending) (w' : World) : Prop :=
  ∃ Ls v1 v2, e = .returned (.tuple #[v1, v2]) ∧ (∀ x ∈ Ls, Good x) ∧ (catL Ls).size ≤ 4096 * bodies.length ∧ Ls.length = bodies.length ∧ w'.ownsRow 0 9 1 v1 Ls.length (strVals Ls) ∧
    w'.ownsRow 0 37 5 v2 (numb count 0 (packG (catL Ls).size ⟨#[]⟩ Ls)).length (pdVals (numb count 0 (packG (catL Ls).size ⟨#[]⟩ Ls))) ∧ Same [] w w' ∧ (∀ k, v1.ownBlock = some k → w.heap.size ≤ k) ∧ (∀ k, v2.ownBlock = some k → w.heap.size ≤ k)

theorem own_slice {w : World} {b e n size : Nat} {v : Value} {ys : List Value} (h : w.ownsRow b e size v n ys) :
    ∃ ad c, v = .slice ad n c ∧ n ≤ c ∧ c ≤ maxLen ∧ ∀ i, i < n → ∃ g, ad = some ⟨g, 0, none⟩ ∧ ∀ (j : Nat) (u : Value), ys[j]? = some u → w.cell? ⟨g, j, none⟩ = some u := by
  by_cases h0 : n = 0
  · rcases h.2 with ⟨rfl, _⟩ | ⟨g, cap, cur, rfl, _, hg, hnc, hcm, hcs, ht⟩
    · exact ⟨none, 0, by rw [h0], by omega, Nat.zero_le _, fun i hi => by omega⟩
    · exact ⟨_, cap, rfl, hnc, hcm, fun i hi => by omega⟩
  · obtain ⟨g, c, rfl, h1, h2, h3⟩ := own_cells h h0
    exact ⟨_, c, rfl, h1, h2, fun i hi => ⟨g, rfl, h3⟩⟩

end Go.Proofs.YtpnbhgmcfooppaaDoor
