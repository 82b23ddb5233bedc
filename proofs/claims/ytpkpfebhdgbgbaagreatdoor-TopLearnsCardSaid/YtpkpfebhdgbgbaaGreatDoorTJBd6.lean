/- The opening of a slice of packets as an argument. No condition. The walk of the law JoinerFeeds: whatever number of a stream and packets, it answers true. No condition. The sections of bodies, and their packets with counts (few, packed). Conditions: up to 20 bodies, of up to 1400 bytes. The sections of bodies, and their packets with counts (packed). Conditions: up to 20 bodies, of up to 1400 bytes; the count is 0 to 15. -/
import Derived.Test.YtpkpfebhdgbgbaaGreatDoorOpen
import Derived.Deep.Slices
import Derived.Test.YtpkpfebhdgbgbaaGreatDoorTJJn13
import Derived.Test.YtpkpfebhdgbgbaaGreatDoorTJBd4
namespace Go.Proofs.YtpkpfebhdgbgbaaGreatDoor
open Go.ChangeShapes Go.WideShapes Go.ChangeAt Go.RowKit
set_option linter.unusedVariables false

theorem open_recs {H : Type} {enc : TypeId × Value → H} {P : Program} {w : World} {base : Nat} {spare : Nat → Bool} {held : Bool} {r : Reach} {b0 size : Nat} {t e : TypeId} {v : Value} {d : DataW H} {p : List MemPlace}
    (ht : P.underlying t = some (.slice e)) (hC : P.cellsOf e = size) (hsz : 0 < size) (hv : Value.okWide P w r b0 t v) (h : DataW.Trod enc P w base spare held t v d p) :
    ∃ (ad : Option Addr) (n c : Nat), v = .slice ad n c ∧ n ≤ c ∧ c ≤ maxLen ∧ ∀ i, i < n → ∃ (a : Addr) (cs : List Value), ad = some a ∧ a.spot = none ∧ cs.length = size ∧
      (∃ m y, DataW.trod enc P w base spare held m e cs = some y) ∧ ∀ j, j < size → w.cell? ⟨a.block, a.off + i * size + j, none⟩ = cs[j]? := by
  obtain ⟨a0, n, c, rfl⟩ := okWide_slice ht hv
  obtain ⟨fuel, hf⟩ := h
  rcases Go.Deep.open_slice ht hf with ⟨h0, _⟩ | ⟨a, len, cap, m, f, D, Pl, h0, _, hl, hm, hmm, _, hx⟩
  · simp [Value.cells] at h0
    obtain ⟨rfl, rfl, rfl⟩ := h0
    exact ⟨none, 0, 0, rfl, Nat.le_refl _, Nat.zero_le _, fun i hi => absurd hi (Nat.not_lt_zero _)⟩
  · simp [Value.cells] at h0
    obtain ⟨rfl, rfl, rfl⟩ := h0
    refine ⟨some a, n, c, rfl, hl, hm, fun i hi => ?_⟩
    have him : i < m := by rw [hmm]; split <;> omega
    obtain ⟨cs, h1, h2⟩ := hx i him
    rw [hC] at h1
    obtain ⟨_, hlen, hcell⟩ := World.cells?_some h1
    have hsp : a.spot = none := by
      have h0m : 0 < m := by omega
      obtain ⟨cs0, h10, _⟩ := hx 0 h0m
      rw [hC] at h10
      obtain ⟨_, hlen0, hcell0⟩ := World.cells?_some h10
      have h3 := hcell0 0 hsz
      rw [List.getElem?_eq_getElem (by omega)] at h3
      have h4 := World.cell?_spot h3
      simpa [Addr.add] using h4
    refine ⟨a, cs, rfl, hsp, hlen, ⟨_, _, h2⟩, fun j hj => ?_⟩
    have h3 := hcell j hj
    rw [addr_add' hsp, addr_add' rfl] at h3
    exact h3

/-- A row of five one-cell fields. -/
theorem rec5 {H : Type} {enc : TypeId × Value → H} {P : Program} {w : World} {base : Nat} {spare : Nat → Bool} {held : Bool} {t : TypeId} {f0 f1 f2 f3 f4 : Field} {m : Nat} {x0 x1 x2 x3 x4 : Value} {y : DataW H × List MemPlace}
    (hs : P.underlying t = some (.struct #[f0, f1, f2, f3, f4])) (hone : Go.Deep.oneCellFields P #[f0, f1, f2, f3, f4] = true) (h : DataW.trod enc P w base spare held m t [x0, x1, x2, x3, x4] = some y) :
    ∃ n y0 y1 y2 y3 y4, DataW.trod enc P w base spare held n f0.type [x0] = some y0 ∧ DataW.trod enc P w base spare held n f1.type [x1] = some y1 ∧ DataW.trod enc P w base spare held n f2.type [x2] = some y2 ∧ DataW.trod enc P w base spare held n f3.type [x3] = some y3 ∧ DataW.trod enc P w base spare held n f4.type [x4] = some y4 := by
  obtain ⟨xs, n, _, _, _, hlen, hf⟩ := DataW.trod_struct hs h
  match xs, hlen with
  | [y0, y1, y2, y3, y4], _ =>
    have h0 := hf 0 f0 rfl; have h1 := hf 1 f1 rfl; have h2 := hf 2 f2 rfl; have h3 := hf 3 f3 rfl; have h4 := hf 4 f4 rfl
    obtain ⟨o0, k0⟩ := Go.Deep.hone_of hone 0 f0 rfl
    obtain ⟨o1, k1⟩ := Go.Deep.hone_of hone 1 f1 rfl
    obtain ⟨o2, k2⟩ := Go.Deep.hone_of hone 2 f2 rfl
    obtain ⟨o3, k3⟩ := Go.Deep.hone_of hone 3 f3 rfl
    obtain ⟨o4, k4⟩ := Go.Deep.hone_of hone 4 f4 rfl
    exact ⟨n, y0, y1, y2, y3, y4, by simpa [o0, k0] using h0, by simpa [o1, k1] using h1, by simpa [o2, k2] using h2, by simpa [o3, k3] using h3, by simpa [o4, k4] using h4⟩

theorem choose_list {α : Type} {n : Nat} {p : Nat → α → Prop} (h : ∀ i, i < n → ∃ x, p i x) : ∃ l : List α, l.length = n ∧ ∀ (i : Nat) (hi : i < l.length), p i l[i] := by
  induction n with
  | zero => exact ⟨[], rfl, fun i hi => absurd hi (Nat.not_lt_zero _)⟩
  | succ n ih =>
    obtain ⟨l, hl, hp⟩ := ih (fun i hi => h i (by omega))
    obtain ⟨x, hx⟩ := h n (by omega)
    refine ⟨l ++ [x], by simp [hl], fun i hi => ?_⟩
    by_cases h1 : i < l.length
    · rw [List.getElem_append_left h1]; exact hp i h1
    · have h2 : i = l.length := by simp at hi; omega
      subst h2
      simp only [List.getElem_concat_length]; rw [hl]; exact hx

/-- A packet. -/
structure PkD where
  pid : Int
  st : Bool
  c : Int
  bad : Bool
  body : ByteArray
/-- A slice of packets. -/
def PktsAt (w : World) (v : Value) (ps : List PkD) : Prop :=
  ∃ ad c, v = .slice ad ps.length c ∧ ps.length ≤ c ∧ c ≤ maxLen ∧ ∀ (i : Nat) (h : i < ps.length), ∃ a : Addr, ad = some a ∧ a.spot = none ∧
    w.cell? ⟨a.block, a.off + i * 5, none⟩ = some (.int .i64 ps[i].pid) ∧ w.cell? ⟨a.block, a.off + i * 5 + 1, none⟩ = some (.bool ps[i].st) ∧ w.cell? ⟨a.block, a.off + i * 5 + 2, none⟩ = some (.int .i64 ps[i].c) ∧
    w.cell? ⟨a.block, a.off + i * 5 + 3, none⟩ = some (.bool ps[i].bad) ∧ w.cell? ⟨a.block, a.off + i * 5 + 4, none⟩ = some (.string ps[i].body)
theorem len5 {α : Type} {l : List α} (h : l.length = 5) : ∃ a b c d e, l = [a, b, c, d, e] := by
  match l, h with
  | [a, b, c, d, e], _ => exact ⟨a, b, c, d, e, rfl⟩

set_option maxRecDepth 100000 in
theorem open_pkts {H : Type} {enc : TypeId × Value → H} {w : World} {base : Nat} {spare : Nat → Bool} {held : Bool} {r : Reach} {b0 : Nat} {v : Value} {d : DataW H} {p : List MemPlace}
    (hv : Value.okWide Tryz.prog w r b0 77 v) (h : DataW.Trod enc Tryz.prog w base spare held 77 v d p) :
    ∃ ps : List PkD, PktsAt w v ps := by
  obtain ⟨ad, n, c, rfl, hl, hm, hx⟩ := open_recs Tryz.underlying77 (size := 5) (by kernel_rfl) (by decide) hv h
  have hop : ∀ i, i < n → ∃ o : PkD, ∃ a : Addr, ad = some a ∧ a.spot = none ∧
      w.cell? ⟨a.block, a.off + i * 5, none⟩ = some (.int .i64 o.pid) ∧ w.cell? ⟨a.block, a.off + i * 5 + 1, none⟩ = some (.bool o.st) ∧
      w.cell? ⟨a.block, a.off + i * 5 + 2, none⟩ = some (.int .i64 o.c) ∧ w.cell? ⟨a.block, a.off + i * 5 + 3, none⟩ = some (.bool o.bad) ∧ w.cell? ⟨a.block, a.off + i * 5 + 4, none⟩ = some (.string o.body) := by
    intro i hi
    obtain ⟨a, cs, h1, h2, h3, ⟨m, y, h4⟩, h5⟩ := hx i hi
    obtain ⟨x0, x1, x2, x3, x4, rfl⟩ := len5 h3
    obtain ⟨k, y0, y1, y2, y3, y4, g0, g1, g2, g3, g4⟩ := rec5 Tryz.underlying85 (by kernel_rfl) h4
    obtain ⟨b0, e0, _, _⟩ := DataW.trod_int Tryz.underlying3 g0
    obtain ⟨b1, e1, _⟩ := DataW.trod_bool Tryz.underlying4 g1
    obtain ⟨b2, e2, _, _⟩ := DataW.trod_int Tryz.underlying3 g2
    obtain ⟨b3, e3, _⟩ := DataW.trod_bool Tryz.underlying4 g3
    obtain ⟨b4, e4, _, _⟩ := DataW.trod_string Tryz.underlying9 g4
    simp at e0 e1 e2 e3 e4
    subst e0 e1 e2 e3 e4
    exact ⟨⟨b0, b1, b2, b3, b4⟩, a, h1, h2, h5 0 (by decide), h5 1 (by decide), h5 2 (by decide), h5 3 (by decide), h5 4 (by decide)⟩
  obtain ⟨ps, rfl, hps⟩ := choose_list hop
  exact ⟨ps, ad, c, rfl, hl, hm, hps⟩

end Go.Proofs.YtpkpfebhdgbgbaaGreatDoor
namespace Go.Proofs.YtpkpfebhdgbgbaaGreatDoor.J
open Go.RowKit
set_option linter.unusedSimpArgs false
set_option linter.unusedVariables false

theorem begin_len (S : JS) (s : ByteArray) (outs : List ByteArray) (err : Int) : (beginG S s outs err).outs.length ≤ outs.length + s.size := by
  unfold beginG
  have := (takeG_len ((⟨#[]⟩ : ByteArray) ++ s).size (⟨#[]⟩ ++ s)).1
  rw [List.length_append]
  have hz : ((⟨#[]⟩ : ByteArray) ++ s).size = s.size := by rw [ByteArray.size_append]; show 0 + _ = _; omega
  rw [hz] at this ⊢
  omega
theorem body_len (S : JS) (err : Int) (st : Bool) (body : ByteArray) : (bodyG S err st body).outs.length ≤ S.hold.size + 2 * body.size := by
  unfold bodyG
  split
  · have := onward_len S body err; omega
  · split
    · exact Nat.zero_le _
    · refine Nat.le_trans (begin_len _ _ _ _) ?_
      have h1 := onward_len S ((body.extract 1 body.size).extract 0 (byteOf body 0)) err
      have h2 : ((body.extract 1 body.size).extract 0 (byteOf body 0)).size ≤ body.size := by rw [ByteArray.size_extract, ByteArray.size_extract]; omega
      have h3 : ((body.extract 1 body.size).extract (byteOf body 0) (body.extract 1 body.size).size).size ≤ body.size := by rw [ByteArray.size_extract, ByteArray.size_extract]; omega
      omega
theorem feed_len {S : JS} {n : Nat} (h : JOk S n) (pid pp : Int) (st : Bool) (c : Int) (bad : Bool) (body : ByteArray) : (feedG pid S pp st c bad body).outs.length ≤ n + 600 := by
  unfold feedG
  split
  · exact Nat.zero_le _
  rename_i hc
  obtain ⟨_, _, r2⟩ := chk_range (by simpa using hc)
  split
  · exact Nat.zero_le _
  split
  · exact Nat.zero_le _
  split
  · exact Nat.zero_le _
  split
  · have := body_len ⟨⟨#[]⟩, false, some (c, body), S.lost + 1⟩ 21 st body
    have h0 : (JS.hold ⟨⟨#[]⟩, false, some (c, body), S.lost + 1⟩).size = 0 := rfl
    omega
  · have := body_len ⟨S.hold, S.fol, some (c, body), S.lost⟩ 0 st body
    have h0 := h.2.1
    have h1 : (JS.hold ⟨S.hold, S.fol, some (c, body), S.lost⟩).size = S.hold.size := rfl
    omega

theorem reads_quiet {w : World} {v : Value} {n m : Nat} {ys : List Value} (h : Reads w 1 v n ys) : Reads (w.drewN m) 1 v n ys := by
  refine ⟨h.1, ?_⟩
  rcases h.2 with ⟨a, c, rfl, hs, hc, hx⟩ | h0
  · exact .inl ⟨a, c, rfl, hs, hc, fun j u hj => hx j u hj⟩
  · exact .inr h0

end Go.Proofs.YtpkpfebhdgbgbaaGreatDoor.J
namespace Go.Proofs.YtpkpfebhdgbgbaaGreatDoor.J
open Go.RowKit
set_option linter.unusedSimpArgs false
set_option linter.unusedVariables false

theorem byteOf_strOf (l : List Nat) (i : Nat) : byteOf (strOf l) i = (l.getD i 0) % 256 := by
  simp only [byteOf, strOf, List.getD_eq_getElem?_getD, List.getElem?_map]
  cases l[i]? with
  | none => rfl
  | some n => simp
theorem good_made (body t : ByteArray) (ht : t.size = 4) (hb : body.size ≤ 4084) : Good (hdrS body.size ++ body ++ t) := by
  have hz : (hdrS body.size).size = 8 := size_strOf _
  have hA : ∀ i, i < 8 → byteOf (hdrS body.size ++ body ++ t) i = byteOf (hdrS body.size) i := fun i hi => by
    rw [ByteArray.append_assoc, byteOf_left _ _ _ (by omega)]
  refine ⟨?_, ?_⟩
  · rw [hA 0 (by omega), hdrS, byteOf_strOf]; simp
  · have e1 : byteOf (hdrS body.size) 1 = (176 + (body.size + 9) / 256) % 256 := by rw [hdrS, byteOf_strOf]; rfl
    have e2 : byteOf (hdrS body.size) 2 = ((body.size + 9) % 256) % 256 := by rw [hdrS, byteOf_strOf]; rfl
    unfold needG
    rw [hA 1 (by omega), hA 2 (by omega), e1, e2, if_pos (by omega)]
    congr 1
    simp only [ByteArray.size_append, hz, ht]
    omega

def fewG (L : List ByteArray) : Bool := L.all (fun s => decide (s.size ≤ 1400)) && decide (L.length ≤ 20)
theorem few_yes {L : List ByteArray} (h : fewG L = true) : (∀ x ∈ L, x.size ≤ 1400) ∧ L.length ≤ 20 := by
  simpa [fewG] using h

/-- The packets, with counts. -/
def numb (c : Int) : Nat → List (Bool × ByteArray) → List PkD
  | _, [] => []
  | i, p :: L => ⟨17, p.1, (c + (i : Int)) % 16, false, p.2⟩ :: numb c (i + 1) L
theorem numb_snoc (c : Int) (p : Bool × ByteArray) : ∀ (i : Nat) (L : List (Bool × ByteArray)), numb c i (L ++ [p]) = numb c i L ++ [⟨17, p.1, (c + ((i + L.length : Nat) : Int)) % 16, false, p.2⟩]
  | i, [] => rfl
  | i, q :: L => by
    rw [List.cons_append, numb, numb_snoc c p (i + 1) L, numb, List.cons_append, List.length_cons]
    rw [show i + 1 + L.length = i + (L.length + 1) by omega]
theorem numb_length (c : Int) : ∀ (i : Nat) (L : List (Bool × ByteArray)), (numb c i L).length = L.length
  | i, [] => rfl
  | i, q :: L => by rw [numb, List.length_cons, numb_length c (i + 1) L, List.length_cons]
theorem numb_append (c : Int) : ∀ (i : Nat) (L M : List (Bool × ByteArray)), numb c i (L ++ M) = numb c i L ++ numb c (i + L.length) M
  | i, [], M => rfl
  | i, q :: L, M => by rw [List.cons_append, numb, numb_append c (i + 1) L M, numb, List.cons_append, List.length_cons, show i + 1 + L.length = i + (L.length + 1) by omega]
def pdV (p : PkD) : List Value := [.int .i64 p.pid, .bool p.st, .int .i64 p.c, .bool p.bad, .string p.body]
def pdVals (L : List PkD) : List Value := L.flatMap pdV
theorem length_pdVals (L : List PkD) : (pdVals L).length = L.length * 5 := by
  induction L with
  | nil => rfl
  | cons p L ih => simp only [pdVals, List.flatMap_cons, List.length_append, List.length_cons] at ih ⊢; rw [ih]; simp [pdV]; omega
theorem pdVals_snoc (L : List PkD) (p : PkD) : pdVals L ++ pdV p = pdVals (L ++ [p]) := by simp [pdVals]
theorem one_pd (p : PkD) : ∀ u ∈ pdV p, u.oneCell' = true := by
  intro u hu
  simp only [pdV, List.mem_cons, List.not_mem_nil, or_false] at hu
  rcases hu with rfl | rfl | rfl | rfl | rfl <;> rfl
theorem reads_pd (w : World) (p : PkD) : Reads (w.alloc (.cells #[.int .i64 p.pid, .bool p.st, .int .i64 p.c, .bool p.bad, .string p.body] 85)) 5 (.slice (some ⟨w.heap.size, 0, none⟩) 1 1) 1 (pdV p) :=
  Reads.of_own (row_newN w #[.int .i64 p.pid, .bool p.st, .int .i64 p.c, .bool p.bad, .string p.body] 85 1 5 rfl (by decide))
theorem Tryz.infoP : (Tryz.prog.info? 85).map (fun i => (i.zero, i.size, i.bytes)) = some (some (.agg #[.int .i64 0, .bool false, .int .i64 0, .bool false, .string ByteArray.empty]), 5, 48) := by kernel_rfl

/-- What a row of five cells each reads. -/
theorem row5 {L : List (List Value)} (h5 : ∀ x ∈ L, x.length = 5) : ∀ (i j : Nat), j < 5 → L.flatten[i * 5 + j]? = (L[i]?).bind (fun x => x[j]?) := by
  induction L with
  | nil => intro i j _; simp
  | cons x L ih =>
    intro i j hj
    have hx := h5 x List.mem_cons_self
    rw [List.flatten_cons]
    cases i with
    | zero => rw [Nat.zero_mul, Nat.zero_add, List.getElem?_append_left (by omega)]; rfl
    | succ i =>
      rw [List.getElem?_append_right (by omega), show (i + 1) * 5 + j - x.length = i * 5 + j by omega, ih (fun y hy => h5 y (List.mem_cons_of_mem _ hy)) i j hj]
      rfl
theorem own_cells {w : World} {b e n size : Nat} {v : Value} {ys : List Value} (h : w.ownsRow b e size v n ys) (h0 : n ≠ 0) : ∃ g c, v = .slice (some ⟨g, 0, none⟩) n c ∧ n ≤ c ∧ c ≤ maxLen ∧ ∀ (j : Nat) (u : Value), ys[j]? = some u → w.cell? ⟨g, j, none⟩ = some u := by
  rcases h.2 with ⟨_, h1⟩ | ⟨g, cap, cur, rfl, _, hg, hnc, hcm, hcs, ht⟩
  · exact absurd h1 h0
  · refine ⟨g, cap, rfl, hnc, hcm, fun j u hj => ?_⟩
    rw [cell_of hg, ← Array.getElem?_toList]
    rw [← ht, List.getElem?_take] at hj
    split at hj
    · exact hj
    · cases hj
theorem pkts_of_own {w : World} {b e : Nat} {v : Value} {L : List PkD} (h : w.ownsRow b e 5 v L.length (pdVals L)) : PktsAt w v L := by
  by_cases h0 : L.length = 0
  · have hL := List.eq_nil_of_length_eq_zero h0
    subst hL
    rcases h.2 with ⟨rfl, _⟩ | ⟨g, cap, cur, rfl, _, hg, hnc, hcm, hcs, ht⟩
    · exact ⟨none, 0, rfl, Nat.le_refl _, Nat.zero_le _, fun i hi => absurd hi (Nat.not_lt_zero _)⟩
    · exact ⟨_, cap, rfl, hnc, hcm, fun i hi => absurd hi (Nat.not_lt_zero _)⟩
  · obtain ⟨g, c, rfl, h1, h2, h3⟩ := own_cells h h0
    refine ⟨_, c, rfl, h1, h2, fun i hi => ⟨_, rfl, rfl, ?_⟩⟩
    have hr := row5 (L := L.map pdV) (fun x hx => by
      obtain ⟨p, _, rfl⟩ := List.mem_map.1 hx
      rfl) i
    have hv : ∀ j, j < 5 → (pdVals L)[i * 5 + j]? = (pdV L[i])[j]? := fun j hj => by
      have := hr j hj
      rw [List.getElem?_map, List.getElem?_eq_getElem hi] at this
      rw [show pdVals L = (L.map pdV).flatten from List.flatMap_def]
      exact this
    simp only [Nat.zero_add]
    exact ⟨h3 _ _ (hv 0 (by omega)), h3 _ _ (hv 1 (by omega)), h3 _ _ (hv 2 (by omega)), h3 _ _ (hv 3 (by omega)), h3 _ _ (hv 4 (by omega))⟩

end Go.Proofs.YtpkpfebhdgbgbaaGreatDoor.J
namespace Go.Proofs.YtpkpfebhdgbgbaaGreatDoor.J
open Go.RowKit
set_option linter.unusedSimpArgs false
set_option linter.unusedVariables false

theorem pack_len : ∀ (k : Nat) (t : ByteArray) (l : List ByteArray), (packG k t l).length ≤ (t ++ catL l).size
  | 0, t, l => Nat.zero_le _
  | k + 1, t, l => by
    by_cases h0 : (t ++ catL l).size = 0
    · rw [pack_nil _ h0]; exact Nat.zero_le _
    · by_cases h1 : 183 ≤ t.size
      · rw [pack_rest k h0 h1, List.length_cons]
        have ih := pack_len k (t.extract (min t.size 184) t.size) l
        rw [ByteArray.size_append, ByteArray.size_extract] at ih
        rw [ByteArray.size_append]
        omega
      · by_cases h2 : t.size ≠ 0 ∧ l = []
        · obtain ⟨h2, rfl⟩ := h2
          rw [pack_last k h2 h1, ByteArray.size_append, List.length_cons, List.length_nil]
          omega
        · rw [pack_begin k h0 h1 h2, List.length_cons]
          have hsz : (t ++ catL l).size = t.size + (catL l).size := ByteArray.size_append
          obtain ⟨n, hn⟩ : ∃ n, n = min 183 (t ++ catL l).size := ⟨_, rfl⟩
          rw [← hn]
          have ih := pack_len k (advG l (n - t.size)).1 (advG l (n - t.size)).2
          rw [adv_cat l (n - t.size) (by omega), ByteArray.size_extract] at ih
          omega

def PkdPost (w : World) (bodies : List ByteArray) (count : Int) (e : Ending) (w' : World) : Prop :=
  ∃ Ls v1 v2, e = .returned (.tuple #[v1, v2]) ∧ (∀ x ∈ Ls, Good x) ∧ (catL Ls).size ≤ 4096 * bodies.length ∧ Ls.length = bodies.length ∧ w'.ownsRow 0 9 1 v1 Ls.length (strVals Ls) ∧
    w'.ownsRow 0 85 5 v2 (numb count 0 (packG (catL Ls).size ⟨#[]⟩ Ls)).length (pdVals (numb count 0 (packG (catL Ls).size ⟨#[]⟩ Ls))) ∧ Same [] w w' ∧ (∀ k, v1.ownBlock = some k → w.heap.size ≤ k) ∧ (∀ k, v2.ownBlock = some k → w.heap.size ≤ k)

theorem own_slice {w : World} {b e n size : Nat} {v : Value} {ys : List Value} (h : w.ownsRow b e size v n ys) :
    ∃ ad c, v = .slice ad n c ∧ n ≤ c ∧ c ≤ maxLen ∧ ∀ i, i < n → ∃ g, ad = some ⟨g, 0, none⟩ ∧ ∀ (j : Nat) (u : Value), ys[j]? = some u → w.cell? ⟨g, j, none⟩ = some u := by
  by_cases h0 : n = 0
  · rcases h.2 with ⟨rfl, _⟩ | ⟨g, cap, cur, rfl, _, hg, hnc, hcm, hcs, ht⟩
    · exact ⟨none, 0, by rw [h0], by omega, Nat.zero_le _, fun i hi => by omega⟩
    · exact ⟨_, cap, rfl, hnc, hcm, fun i hi => by omega⟩
  · obtain ⟨g, c, rfl, h1, h2, h3⟩ := own_cells h h0
    exact ⟨_, c, rfl, h1, h2, fun i hi => ⟨g, rfl, h3⟩⟩

end Go.Proofs.YtpkpfebhdgbgbaaGreatDoor.J
