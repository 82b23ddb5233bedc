/- Small contracts of the joiner, by what it is; what rows of packets read; the chapters' lists of numbers. No condition. -/
import Derived.Test.YtpnbhgmcfooppaaDoorDBd6
namespace Go.Proofs.YtpnbhgmcfooppaaDoor
open Go.RowKit
set_option linter.unusedSimpArgs false
set_option linter.unusedVariables false

theorem js_same {A B : World} {b : Nat} {pid : Int} {S : JS} {T : List Nat} (h : IsJS A b pid S) (hs : Same T A B) (hb : b ∉ T) : IsJS B b pid S := hs.heap h hb
theorem jheld_any {w : World} {b : Nat} {pid : Int} {S : JS} (h : IsJS w b pid S) : Calls Tryd.prog 11 #[.pointer (some ⟨b, 0, none⟩)] w fun e w' => e = .returned (.string S.hold) ∧ w = w' := held_any h
theorem jlost_any {w : World} {b : Nat} {pid : Int} {S : JS} (h : IsJS w b pid S) : Calls Tryd.prog 9 #[.pointer (some ⟨b, 0, none⟩)] w fun e w' => e = .returned (.int .i64 S.lost) ∧ w = w' := lost_any h
theorem qheld {w : World} {b : Nat} {pid : Int} {S : JS} (h : IsJS w b pid S) (m : Nat) : Calls Tryd.prog 11 #[.pointer (some ⟨b, 0, none⟩)] (w.drewN m) fun e w' => e = .returned (.string S.hold) ∧ w' = w.drewN m :=
  (jheld_any (js_same h (Same.drewN _ m) (by simp))).mono fun e w' ⟨x1, x2⟩ => ⟨x1, x2.symm⟩
theorem qlost {w : World} {b : Nat} {pid : Int} {S : JS} (h : IsJS w b pid S) (m : Nat) : Calls Tryd.prog 9 #[.pointer (some ⟨b, 0, none⟩)] (w.drewN m) fun e w' => e = .returned (.int .i64 S.lost) ∧ w' = w.drewN m :=
  (jlost_any (js_same h (Same.drewN _ m) (by simp))).mono fun e w' ⟨x1, x2⟩ => ⟨x1, x2.symm⟩

/-- What one packet of a row reads. -/
def PdCells (w : World) (g o : Nat) (q : PkD) : Prop :=
  w.cell? ⟨g, o, none⟩ = some (.int .i64 q.pid) ∧ w.cell? ⟨g, o + 1, none⟩ = some (.bool q.st) ∧ w.cell? ⟨g, o + 2, none⟩ = some (.int .i64 q.c) ∧ w.cell? ⟨g, o + 3, none⟩ = some (.bool q.bad) ∧ w.cell? ⟨g, o + 4, none⟩ = some (.string q.body)
theorem PdCells.same {A B : World} {g o : Nat} {q : PkD} {S : List Nat} (h : PdCells A g o q) (hs : Same S A B) (hg : g ∉ S) : PdCells B g o q :=
  ⟨hs.cell h.1 hg, hs.cell h.2.1 hg, hs.cell h.2.2.1 hg, hs.cell h.2.2.2.1 hg, hs.cell h.2.2.2.2 hg⟩
theorem row_pd {w : World} {b e : Nat} {v : Value} {L : List PkD} (h : w.ownsRow b e 5 v L.length (pdVals L)) :
    ∃ ad c, v = .slice ad L.length c ∧ L.length ≤ c ∧ c ≤ maxLen ∧ ∀ pre q post, L = pre ++ q :: post → ∃ g, ad = some ⟨g, 0, none⟩ ∧ PdCells w g (pre.length * 5) q := by
  obtain ⟨ad, c, rfl, h1, h2, h3⟩ := own_slice h
  refine ⟨ad, c, rfl, h1, h2, fun pre q post hL => ?_⟩
  obtain ⟨g, rfl, hc⟩ := h3 pre.length (by rw [hL]; simp)
  refine ⟨g, rfl, ?_⟩
  have hv : ∀ j, j < 5 → (pdVals L)[pre.length * 5 + j]? = (pdV q)[j]? := fun j hj => by
    have hr := row5 (L := L.map pdV) (fun x hx => by
      obtain ⟨p, _, rfl⟩ := List.mem_map.1 hx
      rfl) pre.length j hj
    rw [List.getElem?_map, hL, List.getElem?_append_right (Nat.le_refl _), Nat.sub_self] at hr
    rw [show pdVals L = (L.map pdV).flatten from List.flatMap_def, hL]
    exact hr
  exact ⟨hc _ _ (hv 0 (by omega)), hc _ _ (hv 1 (by omega)), hc _ _ (hv 2 (by omega)), hc _ _ (hv 3 (by omega)), hc _ _ (hv 4 (by omega))⟩

/-- A slice of numbers. -/
def NumsAt (w : World) (v : Value) (xs : List Int) : Prop :=
  ∃ ad c, v = .slice ad xs.length c ∧ xs.length ≤ c ∧ c ≤ maxLen ∧ ∀ (i : Nat) (h : i < xs.length), ∃ a : Addr, ad = some a ∧ a.spot = none ∧ w.cell? ⟨a.block, a.off + i, none⟩ = some (.int .i64 xs[i])

theorem pack_end {k : Nat} {t : ByteArray} {l : List ByteArray} (h : packG k t l = []) (hz : (t ++ catL l).size ≤ k) (hg : ∀ x ∈ l, Good x) : t.size = 0 ∧ l = [] := by
  have h0 : (t ++ catL l).size = 0 := by
    cases k with
    | zero => omega
    | succ k =>
      refine Decidable.byContradiction fun hne => ?_
      by_cases h1 : 183 ≤ t.size
      · rw [pack_rest k hne h1] at h; cases h
      · by_cases h2 : t.size ≠ 0 ∧ l = []
        · obtain ⟨h2, rfl⟩ := h2
          rw [pack_last k h2 h1] at h; cases h
        · rw [pack_begin k hne h1 h2] at h; cases h
  rw [ByteArray.size_append] at h0
  refine ⟨by omega, ?_⟩
  cases l with
  | nil => rfl
  | cons x l =>
    have := (hg x List.mem_cons_self).size
    rw [catL, ByteArray.size_append] at h0
    omega
theorem new_strs_none {w w' : World} {v : Value} (h : NewStrs w w' v []) : ∃ ad c, v = .slice ad 0 c := by
  obtain ⟨ad, c, h1, _⟩ := own_slice h.1
  exact ⟨ad, c, h1⟩

end Go.Proofs.YtpnbhgmcfooppaaDoor
