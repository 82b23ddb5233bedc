/- Small parts of the laws of layer 12: what Add does, in cases; how many datagrams are placed. No condition. -/
import Derived.Test.YtdkjcocpkgojaaaDoorLw2
namespace Go.Proofs.YtdkjcocpkgojaaaDoor
open Go.RowKit
open Dg (checkE)
set_option linter.unusedSimpArgs false
set_option linter.unusedVariables false

theorem text_size (x : PartT) (h : x.s.size ≤ 5000) : (textS x).size ≤ 5000 := by
  unfold textS
  split
  · exact h
  · rw [(made_fine _ _).2]; unfold mOf; omega
theorem add_cases (R C : Nat) (D : List ByteArray) (d : ByteArray) :
    (∃ e, e ≠ 0 ∧ addR R C D d = (0, e) ∧ addD R C D d = D ∧ ((checkE d = e) ∨ (checkE d = 0 ∧ R * C < (txt D).length + d.size ∧ e = 17))) ∨
    (checkE d = 0 ∧ (txt D).length + d.size ≤ R * C ∧ addR R C D d = (((txt D).length : Int), 0) ∧ addD R C D d = D ++ [d]) := by
  by_cases h1 : checkE d = 0
  · by_cases h2 : R * C < (txt D).length + d.size
    · have e : addR R C D d = (0, 17) := by unfold addR; rw [if_neg (fun h => h h1), if_pos h2]
      refine .inl ⟨17, by decide, e, ?_, .inr ⟨h1, h2, rfl⟩⟩
      unfold addD; rw [e, if_neg (by decide)]
    · have e : addR R C D d = (((txt D).length : Int), 0) := by unfold addR; rw [if_neg (fun h => h h1), if_neg h2]
      refine .inr ⟨h1, by omega, e, ?_⟩
      unfold addD; rw [e, if_pos rfl]
  · have e : addR R C D d = (0, checkE d) := by unfold addR; rw [if_pos h1]
    refine .inl ⟨checkE d, h1, e, ?_, .inl rfl⟩
    unfold addD; rw [e, if_neg h1]
theorem addD_few (R C : Nat) (D : List ByteArray) (d : ByteArray) : (addD R C D d).length ≤ D.length + 1 := by
  unfold addD; split
  · rw [List.length_append]; exact Nat.le_refl _
  · omega
theorem txt_snoc_length (D : List ByteArray) (d : ByteArray) : (txt (D ++ [d])).length = (txt D).length + d.size := by
  rw [txt_snoc, List.length_append, lb_length]
theorem FrAt.low {w : World} {bl : List Nat} {p R C K : Nat} {D : List ByteArray} {old : Bool} (h : FrAt w bl p R C K D old) : 256 ≤ R ∧ R ≤ 1024 ∧ C ≤ 191 ∧ K ≤ 64 ∧ 1 ≤ C := by
  obtain ⟨G, lv, M, h⟩ := h; exact h.low
theorem FrAt.room {w : World} {bl : List Nat} {p R C K : Nat} {D : List ByteArray} {old : Bool} (h : FrAt w bl p R C K D old) : (txt D).length ≤ R * C := by
  obtain ⟨G, lv, M, h⟩ := h; exact h.room
theorem pad_room {R C n : Nat} (hR : 0 < R) (h : n ≤ R * C) : 191 - (C : Int) ≤ padZ R n := by
  have h1 : colsUsed R n ≤ C := by
    refine Nat.not_lt.1 fun h2 => ?_
    have := (cols_last (n := C) (L := n) hR).2 h2
    rw [Nat.mul_comm] at this
    omega
  unfold padZ; omega
theorem placed_len {bl : List Nat} {p R C K : Nat} {D : List ByteArray} {old : Bool} {w : World} (h : FrAt w bl p R C K D old) :
    Calls Tryd.prog 23 #[.pointer (some ⟨p, 0, none⟩)] w (fun e w' => (∃ ad c, e = .returned (.slice ad D.length c)) ∧ Same [] w w') := by
  refine (placed_any h).mono fun e w' ⟨⟨u, h1, h2⟩, h3⟩ => ⟨?_, h3⟩
  rcases h2.2 with ⟨a, c, h4, _⟩ | ⟨h4, h5⟩
  · exact ⟨some a, c, by rw [h1, h4]⟩
  · exact ⟨none, 0, by rw [h1, h4, h5]⟩
theorem add_step {bl : List Nat} {p R C K : Nat} {D D' : List ByteArray} {old : Bool} {d : ByteArray} {ga ge : Int} {w : World} (h : FrAt w bl p R C K D old) (hA : addR R C D d = (ga, ge)) (hD' : addD R C D d = D') (hd : d.size ≤ 5000) (hD : D.length < 100) :
    Calls Tryd.prog 15 #[.pointer (some ⟨p, 0, none⟩), .string d] w
      (fun e w' => e = .returned (.tuple #[.int .i64 ga, .int .i64 ge]) ∧ (∃ bl' old', FrAt w' bl' p R C K D' old' ∧ ∀ x ∈ bl', x ∈ bl ∨ w.heap.size ≤ x) ∧ Same bl w w') := by
  refine (fadd_any d h (by omega) hD).mono fun e w' ⟨h1, ⟨bl', h2, h3⟩, h4⟩ => ?_
  rw [hA] at h1
  rw [hD'] at h2
  exact ⟨h1, ⟨bl', _, h2, h3⟩, h4⟩
end Go.Proofs.YtdkjcocpkgojaaaDoor
