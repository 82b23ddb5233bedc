/- The sections of bodies, and their packets with counts (few, packed). Conditions: up to 20 bodies, of up to 1400 bytes. -/
import Derived.Test.YtpnbhgmcfooppaaDoorDBd4
import Derived.Test.YtpnbhgmcfooppaaDoorOpenPkts
namespace Go.Proofs.YtpnbhgmcfooppaaDoor
open Go.RowKit
set_option linter.unusedSimpArgs false
set_option linter.unusedVariables false

theorem byteOf_strOf (l : List Nat) (i : Nat) : byteOf (strOf l) i = (l.getD i 0) % 256 := by
  simp only [byteOf, strOf, List.getD_eq_getElem?_getD, List.getElem?_map]
  cases l[i]? with
  | none => rfl
  | some n => simp
theorem good_made (body t : ByteArray) (ht : t.size = 4) (hb : body.size ≤ 4084) : Good (hdrS body.size ++ body ++ t) := by
  have hz : (hdrS body.size).size = 8 := size_strOf _
  have hA : ∀ i, i < 8 → byteOf (hdrS body.size ++ body ++ t) i = byteOf (hdrS body.size) i := fun i hi => by
    rw [ByteArray.append_assoc, byteOf_left _ _ _ (by omega)]
  refine ⟨?_, ?_⟩
  · rw [hA 0 (by omega), hdrS, byteOf_strOf]; simp
  · have e1 : byteOf (hdrS body.size) 1 = (176 + (body.size + 9) / 256) % 256 := by rw [hdrS, byteOf_strOf]; rfl
    have e2 : byteOf (hdrS body.size) 2 = ((body.size + 9) % 256) % 256 := by rw [hdrS, byteOf_strOf]; rfl
    unfold needG
    rw [hA 1 (by omega), hA 2 (by omega), e1, e2, if_pos (by omega)]
    congr 1
    simp only [ByteArray.size_append, hz, ht]
    omega

def fewG (L : List ByteArray) : Bool := L.all (fun s => decide (s.size ≤ 1400)) && decide (L.length ≤ 20)
theorem few_yes {L : List ByteArray} (h : fewG L = true) : (∀ x ∈ L, x.size ≤ 1400) ∧ L.length ≤ 20 := by
  simpa [fewG] using h

/-- The packets, with counts. -/
def numb (c : Int) : Nat → List (Bool × ByteArray) → List PkD
  | _, [] => []
  | i, p :: L => ⟨17, p.1, (c + (i : Int)) % 16, false, p.2⟩ :: numb c (i + 1) L
theorem numb_snoc (c : Int) (p : Bool × ByteArray) : ∀ (i : Nat) (L : List (Bool × ByteArray)), numb c i (L ++ [p]) = numb c i L ++ [⟨17, p.1, (c + ((i + L.length : Nat) : Int)) % 16, false, p.2⟩]
  | i, [] => rfl
  | i, q :: L => by
    rw [List.cons_append, numb, numb_snoc c p (i + 1) L, numb, List.cons_append, List.length_cons]
    rw [show i + 1 + L.length = i + (L.length + 1) by omega]
theorem numb_length (c : Int) : ∀ (i : Nat) (L : List (Bool × ByteArray)), (numb c i L).length = L.length
  | i, [] => rfl
  | i, q :: L => by rw [numb, List.length_cons, numb_length c (i + 1) L, List.length_cons]
theorem numb_append (c : Int) : ∀ (i : Nat) (L M : List (Bool × ByteArray)), numb c i (L ++ M) = numb c i L ++ numb c (i + L.length) M
  | i, [], M => rfl
  | i, q :: L, M => by rw [List.cons_append, numb, numb_append c (i + 1) L M, numb, List.cons_append, List.length_cons, show i + 1 + L.length = i + (L.length + 1) by omega]
def pdV (p : PkD) : List Value := [.int .i64 p.pid, .bool p.st, .int .i64 p.c, .bool p.bad, .string p.body]
def pdVals (L : List PkD) : List Value := L.flatMap pdV
theorem length_pdVals (L : List PkD) : (pdVals L).length = L.length * 5 := by
  induction L with
  | nil => rfl
  | cons p L ih => simp only [pdVals, List.flatMap_cons, List.length_append, List.length_cons] at ih ⊢; rw [ih]; simp [pdV]; omega
theorem pdVals_snoc (L : List PkD) (p : PkD) : pdVals L ++ pdV p = pdVals (L ++ [p]) := by simp [pdVals]
theorem one_pd (p : PkD) : ∀ u ∈ pdV p, u.oneCell' = true := by
  intro u hu
  simp only [pdV, List.mem_cons, List.not_mem_nil, or_false] at hu
  rcases hu with rfl | rfl | rfl | rfl | rfl <;> rfl
theorem reads_pd (w : World) (p : PkD) : Reads (w.alloc (.cells #[.int .i64 p.pid, .bool p.st, .int .i64 p.c, .bool p.bad, .string p.body] 37)) 5 (.slice (some ⟨w.heap.size, 0, none⟩) 1 1) 1 (pdV p) :=
  Reads.of_own (row_newN w #[.int .i64 p.pid, .bool p.st, .int .i64 p.c, .bool p.bad, .string p.body] 37 1 5 rfl (by decide))
theorem Tryd.infoP : (Tryd.prog.info? 37).map (fun i => (i.zero, i.size, i.bytes)) = some (some (.agg #[.int .i64 0, .bool false, .int .i64 0, .bool false, .string ByteArray.empty]), 5, 48) := by kernel_rfl

/-- What a row of five cells each reads. -/
theorem row5 {L : List (List Value)} (h5 : ∀ x ∈ L, x.length = 5) : ∀ (i j : Nat), j < 5 → L.flatten[i * 5 + j]? = (L[i]?).bind (fun x => x[j]?) := by
  induction L with
  | nil => intro i j _; simp
  | cons x L ih =>
    intro i j hj
    have hx := h5 x List.mem_cons_self
    rw [List.flatten_cons]
    cases i with
    | zero => rw [Nat.zero_mul, Nat.zero_add, List.getElem?_append_left (by omega)]; rfl
    | succ i =>
      rw [List.getElem?_append_right (by omega), show (i + 1) * 5 + j - x.length = i * 5 + j by omega, ih (fun y hy => h5 y (List.mem_cons_of_mem _ hy)) i j hj]
      rfl
theorem own_cells {w : World} {b e n size : Nat} {v : Value} {ys : List Value} (h : w.ownsRow b e size v n ys) (h0 : n ≠ 0) : ∃ g c, v = .slice (some ⟨g, 0, none⟩) n c ∧ n ≤ c ∧ c ≤ maxLen ∧ ∀ (j : Nat) (u : Value), ys[j]? = some u → w.cell? ⟨g, j, none⟩ = some u := by
  rcases h.2 with ⟨_, h1⟩ | ⟨g, cap, cur, rfl, _, hg, hnc, hcm, hcs, ht⟩
  · exact absurd h1 h0
  · refine ⟨g, cap, rfl, hnc, hcm, fun j u hj => ?_⟩
    rw [cell_of hg, ← Array.getElem?_toList]
    rw [← ht, List.getElem?_take] at hj
    split at hj
    · exact hj
    · cases hj
theorem pkts_of_own {w : World} {b e : Nat} {v : Value} {L : List PkD} (h : w.ownsRow b e 5 v L.length (pdVals L)) : PktsAt w v L := by
  by_cases h0 : L.length = 0
  · have hL := List.eq_nil_of_length_eq_zero h0
    subst hL
    rcases h.2 with ⟨rfl, _⟩ | ⟨g, cap, cur, rfl, _, hg, hnc, hcm, hcs, ht⟩
    · exact ⟨none, 0, rfl, Nat.le_refl _, Nat.zero_le _, fun i hi => absurd hi (Nat.not_lt_zero _)⟩
    · exact ⟨_, cap, rfl, hnc, hcm, fun i hi => absurd hi (Nat.not_lt_zero _)⟩
  · obtain ⟨g, c, rfl, h1, h2, h3⟩ := own_cells h h0
    refine ⟨_, c, rfl, h1, h2, fun i hi => ⟨_, rfl, rfl, ?_⟩⟩
    have hr := row5 (L := L.map pdV) (fun x hx => by
      obtain ⟨p, _, rfl⟩ := List.mem_map.1 hx
      rfl) i
    have hv : ∀ j, j < 5 → (pdVals L)[i * 5 + j]? = (pdV L[i])[j]? := fun j hj => by
      have := hr j hj
      rw [List.getElem?_map, List.getElem?_eq_getElem hi] at this
      rw [show pdVals L = (L.map pdV).flatten from List.flatMap_def]
      exact this
    simp only [Nat.zero_add]
    exact ⟨h3 _ _ (hv 0 (by omega)), h3 _ _ (hv 1 (by omega)), h3 _ _ (hv 2 (by omega)), h3 _ _ (hv 3 (by omega)), h3 _ _ (hv 4 (by omega))⟩

end Go.Proofs.YtpnbhgmcfooppaaDoor
