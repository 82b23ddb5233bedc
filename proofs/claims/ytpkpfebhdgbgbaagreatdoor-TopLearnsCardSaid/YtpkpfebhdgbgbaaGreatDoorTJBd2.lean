/- Bytes, with bytes 255 behind them (filled, in the reference), by a row that is cut out of a text and grows. Condition: fewer than 2^40 bytes. A slice of texts. No condition. The packets' bodies of sections (Bodies, in the reference). Conditions: the sections have fewer than 2^40 bytes together. -/
import Derived.Test.YtpkpfebhdgbgbaaGreatDoorBitsIn
import Derived.Test.YtpkpfebhdgbgbaaGreatDoorOpen
import Derived.ArgAppend
import Derived.Laws.IdiomStrings
import Derived.Test.YtpkpfebhdgbgbaaGreatDoorTJMd1
import Derived.Deep.RegionLaw
import Derived.Deep.DeepCutAuto
namespace Go.Proofs.YtpkpfebhdgbgbaaGreatDoor.J
open Go.RowKit
set_option linter.unusedSimpArgs false
set_option linter.unusedVariables false

/-- The slice v lies in block g, from its first cell on, reads ys, and all its cells may be written. -/
def RowF (w : World) (v : Value) (g : Nat) (ys : List Value) : Prop :=
  ∃ cap, v = .slice (some ⟨g, 0, none⟩) ys.length cap ∧ ys.length ≤ cap ∧ cap ≤ maxLen ∧ (∀ j u, ys[j]? = some u → w.cell? ⟨g, j, none⟩ = some u) ∧
    ∀ j, j < cap → (w.cell? ⟨g, j, none⟩).isSome = true ∧ w.frozen? ⟨g, j, none⟩ = false

theorem RowF.same {A B : World} {v : Value} {g : Nat} {ys : List Value} {S : List Nat} (h : RowF A v g ys) (hs : Same S A B) (hg : g ∉ S) : RowF B v g ys := by
  obtain ⟨cap, rfl, h1, h2, h3, h4⟩ := h
  refine ⟨cap, rfl, h1, h2, fun j u hj => hs.cell (h3 j u hj) hg, fun j hj => ?_⟩
  obtain ⟨c, hc⟩ := Option.isSome_iff_exists.1 (h4 j hj).1
  refine ⟨by rw [hs.cell hc hg]; rfl, ?_⟩
  rw [hs.frozen (World.block_lt_of_cell? A _ hc) hg]
  exact (h4 j hj).2
theorem rowF_of_own {w : World} {base e n : Nat} {v : Value} {ys : List Value} (h : w.ownsRow base e 1 v n ys) (h0 : ys ≠ []) : ∃ g, v.ownBlock = some g ∧ base ≤ g ∧ RowF w v g ys := by
  have hl : ys.length = n := by simpa using h.1
  rcases h.2 with ⟨_, h1⟩ | ⟨g, cap, cur, rfl, hb, hg, h1, h2, h3, h4⟩
  · exact absurd (List.eq_nil_of_length_eq_zero (by omega)) h0
  · refine ⟨g, rfl, hb, cap, by rw [hl], by omega, h2, fun j u hj => ?_, fun j hj => ?_⟩
    · rw [cell_of hg, ← Array.getElem?_toList]
      rw [← h4, List.getElem?_take] at hj
      split at hj
      · exact hj
      · cases hj
    · rw [cell_of hg, free_of hg]
      rw [Nat.mul_one] at h3
      exact ⟨by rw [Array.getElem?_eq_getElem (by omega)]; rfl, rfl⟩

section
variable {P : Program} {w : World}
theorem run_append_rowF (t ty e : TypeId) (i : TypeInfo) (z : Value) (ht : P.underlying t = some (.slice e)) (hi : P.info? e = some i) (hz : i.zero = some z)
    (hsize : i.size = 1) (hby : i.bytes = 1) (hzs : z.cells.size = 1) (v : Value) (g : Nat) (xs : List Value) (hown : RowF w v g xs)
    (ad : Addr) (c : Nat) (y : Value) (hr : w.cell? (ad.add 0) = some y) (h1 : y.oneCell' = true) (h63 : xs.length + 1 ≤ 140737488355328) :
    ∃ v' w' g', (Builtin.append_ #[t, t] ty #[v, .slice (some ad) 1 c]).run P w = .ok v' w' ∧ RowF w' v' g' (xs ++ [y]) ∧ Same [g] w w' ∧ (g' = g ∨ w.heap.size ≤ g') := by
  obtain ⟨cap, rfl, g1, g2, g3, g4⟩ := hown
  have hn : ∀ j u, [y][j]? = some u → w.cell? (ad.add j) = some u := fun j u hj => by
    have : j = 0 := by
      have := (List.getElem?_eq_some_iff.1 hj).1; simp at this; omega
    subst this
    simp at hj; subst hj; exact hr
  by_cases hroom : xs.length + 1 ≤ cap
  · have hrun := run_append_room_cells (P := P) w t ty e i ht hi g 0 xs.length cap ad 1 c [y] (by simp [hsize]) hn (by simpa using h1) hroom
      (fun j hj => by simp at hj; subst hj; simp [hsize]; exact (g4 xs.length (by omega)).1) (fun j hj => by simp at hj; subst hj; simp [hsize]; exact (g4 xs.length (by omega)).2)
    refine ⟨_, _, g, hrun, ⟨cap, by simp, by simpa using hroom, g2, ?_, ?_⟩, ?_, .inl rfl⟩
    · intro j u hj
      rw [hsize, Nat.zero_add, Nat.mul_one]
      by_cases hj1 : j < xs.length
      · rw [List.getElem?_append_left hj1] at hj
        rw [World.cell?_setCells_out g [y] xs.length w ⟨g, j, none⟩ (fun _ _ => .inl hj1)]
        exact g3 j u hj
      · have : j = xs.length := by
          have := (List.getElem?_eq_some_iff.1 hj).1; simp at this; omega
        subst this
        simp at hj; subst hj
        exact World.cell?_setCells_in g [y] xs.length w (fun j hj => by simp at hj; subst hj; exact (g4 xs.length (by omega)).1) 0 (by simp)
    · intro j hj
      rw [hsize, Nat.zero_add, Nat.mul_one, World.frozen?_setCells]
      refine ⟨?_, (g4 j hj).2⟩
      by_cases hj1 : j = xs.length
      · subst hj1
        rw [show w.setCells g xs.length [y] = w.setCells g xs.length [y] from rfl]
        have := World.cell?_setCells_in g [y] xs.length w (fun j hj => by simp at hj; subst hj; exact (g4 xs.length (by omega)).1) 0 (by simp)
        rw [Nat.add_zero] at this
        rw [this]; rfl
      · rw [World.cell?_setCells_out g [y] xs.length w ⟨g, j, none⟩ (fun _ _ => by simp; omega)]
        exact (g4 j hj).1
    · exact (Same.refl [g] w).setCell (by simp) _
  · obtain ⟨v', w', hrun, h2, h3⟩ := run_append_arg_grows (P := P) w t ty e i z 1 1 ht hi hz hsize hby hzs (by decide) ⟨g, 0, none⟩ xs.length cap xs (by simp) (fun j u hj => by rw [Addr.add_lit, Nat.zero_add]; exact g3 j u hj) ad 1 c [y] (by simp) hn (by omega) (by unfold maxLen; omega) (by omega)
    obtain ⟨g', _, hb, hrow⟩ := rowF_of_own h2 (by simp)
    exact ⟨v', w', g', hrun, hrow, (Same.of_grown h3).mono (fun x hx _ => by simp at hx), .inr hb⟩

theorem wpList_append_rowF {ops : Array Oper} {rest : List Oper} {o : Oper} {a : Act} {Q : Exit → Act → World → Prop} (hgd : o.guard = none) (s x : Operand) (t : TypeId)
    (ho : o.op = .call { callee := .builtin .append, args := #[s, x], argTypes := #[t, t] })
    (e : TypeId) (i : TypeInfo) (z : Value) (ht : P.underlying t = some (.slice e)) (hi : P.info? e = some i) (hz : i.zero = some z)
    (hsize : i.size = 1) (hby : i.bytes = 1) (hzs : z.cells.size = 1) (v : Value) (g : Nat) (xs : List Value) (hs : a.eval s = v) (hown : RowF w v g xs)
    (ad : Addr) (c : Nat) (y : Value) (hx : a.eval x = .slice (some ad) 1 c) (hr : w.cell? (ad.add 0) = some y) (h1 : y.oneCell' = true) (h63 : xs.length + 1 ≤ 140737488355328)
    (h : ∀ v' w' g', RowF w' v' g' (xs ++ [y]) → Same [g] w w' → (g' = g ∨ w.heap.size ≤ g') → wpList P ops Q rest (a.put o.dst v') w') :
    wpList P ops Q (o :: rest) a w := by
  refine wpList_plain hgd fun K hK => ?_
  obtain ⟨v', w', g', hrun, h2, h3, h5⟩ := run_append_rowF (P := P) t o.type e i z ht hi hz hsize hby hzs v g xs hown ad c y hr h1 h63
  unfold Oper.wp execOp
  simp only [ho, resolve, invoke, builtin, Sem.run_bind, Sem.run_pure, Result.andThen_ok, List.map_toArray, List.map_cons, List.map_nil, hs, hx, hrun]
  exact hK _ _ (h v' w' g' h2 h3 h5)
end

/-- '[]byte(s)': the value and the world. -/
noncomputable def cutV (W : World) (s : ByteArray) : Value := .slice (some ⟨W.heap.size, 0, none⟩) s.size (grownCap W s.size 0 5)
noncomputable def cutW (W : World) (s : ByteArray) : World := W.drew.alloc (.cells (bytesRow s (grownCap W s.size 0 5)) 5 ((bytesRow s (grownCap W s.size 0 5)).size, (bytesRow s (grownCap W s.size 0 5)).size + 1))
theorem run_cut (s : ByteArray) (W : World) : (convert 9 33 (.string s)).run Tryz.prog W = .ok (cutV W s) (cutW W s) :=
  run_bytes_of_string W _ _ _ s Tryz.underlying9 Tryz.underlying33 Tryz.underlying5
def natsOf (s : ByteArray) : List Nat := s.data.toList.map UInt8.toNat
theorem length_nats (s : ByteArray) : (natsOf s).length = s.size := by rw [natsOf, List.length_map, Array.length_toList]; rfl
theorem length_u8s (l : List Nat) : (u8s l).length = l.length := by rw [u8s, List.length_map]
/-- 'string(b)' of such a row. -/
theorem rowF_string {w : World} {v : Value} {g : Nat} {l : List Nat} (h : RowF w v g (u8s l)) : (convert 33 9 v).run Tryz.prog w = .ok (.string (strOf l)) w := by
  obtain ⟨cap, rfl, _, _, h3, _⟩ := h
  rw [length_u8s]
  rw [run_convert_bytes_arg w 33 5 Tryz.underlying33 Tryz.underlying5 g 0 l.length cap (l.map fun (n : Nat) => (n : Int)) (by simp) (fun i hi => ?_) 9 Tryz.underlying9]
  · simp [strOfNums, strOf, Function.comp_def]
  · rw [Nat.zero_add, h3 i (.int .u8 (l.getD i 0 : Nat))]
    · simp [List.getD_eq_getElem?_getD, List.getElem?_map, List.getElem?_eq_getElem hi]
    · simp [u8s, List.getD_eq_getElem?_getD, List.getElem?_map, List.getElem?_eq_getElem hi]
theorem cut_same (s : ByteArray) (W : World) : Same [] W (cutW W s) := (Same.refl [] W).drew.alloc _
theorem cut_row (s : ByteArray) (W : World) (hs : s.size ≤ maxLen) : RowF (cutW W s) (cutV W s) W.heap.size (u8s (natsOf s)) := by
  have hcap := grownCap_ge W s.size 0 5
  have hcm := grownCap_le_maxLen W s.size 0 5 hs
  have hh : (cutW W s).heap[W.heap.size]? = some (.cells (bytesRow s (grownCap W s.size 0 5)) 5 ((bytesRow s (grownCap W s.size 0 5)).size, (bytesRow s (grownCap W s.size 0 5)).size + 1)) := by
    show (W.heap.push _)[W.heap.size]? = _
    simp
  have hsz : (bytesRow s (grownCap W s.size 0 5)).size = grownCap W s.size 0 5 := by
    have h1 : s.data.size = s.size := rfl
    simp only [bytesRow, Array.size_append, Array.size_map, Array.size_replicate, h1]; omega
  generalize hcapd : grownCap W s.size 0 5 = cap at *
  refine ⟨cap, by unfold cutV; rw [length_u8s, length_nats, hcapd], by rw [length_u8s, length_nats]; exact hcap, hcm, fun j u hj => ?_, fun j hj => ?_⟩
  · rw [cell_of hh]
    have hj1 : j < s.data.size := by have := (List.getElem?_eq_some_iff.1 hj).1; rw [length_u8s, length_nats] at this; exact this
    unfold bytesRow
    rw [Array.getElem?_append_left (by simpa using hj1), ← hj]
    simp [u8s, natsOf, Function.comp_def]
  · constructor
    · rw [cell_of hh, Array.getElem?_eq_getElem (by omega)]; rfl
    · simp [World.frozen?, hh]; omega

/-- Bytes, with bytes 255 behind them, 184 together. -/
def stuffOf (n : Nat) : ByteArray := ⟨(List.replicate n (255 : UInt8)).toArray⟩
def fillG (s : ByteArray) : ByteArray := s ++ stuffOf (184 - s.size)
theorem size_stuff (n : Nat) : (stuffOf n).size = n := by simp [stuffOf, ByteArray.size]
theorem size_fill (s : ByteArray) (h : s.size ≤ 184) : (fillG s).size = 184 := by unfold fillG; rw [ByteArray.size_append, size_stuff]; omega
theorem fill_nats (s : ByteArray) (m : Nat) : strOf (natsOf s ++ List.replicate m 255) = s ++ stuffOf m := by
  apply ByteArray.ext
  rw [ByteArray.data_append]
  apply Array.toList_inj.1
  have hz : ∀ l : List UInt8, List.map (UInt8.ofNat ∘ UInt8.toNat) l = l := fun l => by
    rw [show (UInt8.ofNat ∘ UInt8.toNat) = id from funext fun b => by simp]
    exact List.map_id l
  simp [strOf, stuffOf, natsOf, hz]
theorem u8s_snoc (l : List Nat) (n : Nat) : u8s l ++ [Value.int .u8 n] = u8s (l ++ [n]) := by simp [u8s]
theorem rep_snoc (l : List Nat) (m n : Nat) : (l ++ List.replicate m n) ++ [n] = l ++ List.replicate (m + 1) n := by rw [List.append_assoc, ← List.replicate_succ']
theorem length_fill (s : ByteArray) (m : Nat) : (natsOf s ++ List.replicate m 255).length = s.size + m := by rw [List.length_append, length_nats, List.length_replicate]
theorem fill_done (s : ByteArray) (m : Nat) (hm : s.size + m ≤ 184 ∨ m = 0) (hk : ¬ s.size + m < 184) : s ++ stuffOf m = fillG s := by unfold fillG; congr 2; omega

theorem Tryz.infoB : (Tryz.prog.info? 5).map (fun i => (i.zero, i.size, i.bytes)) = some (some (.int .u8 0), 1, 1) := by kernel_rfl

def lenV (v : Value) : Nat := match v with | .slice _ n _ => n | _ => 0
end Go.Proofs.YtpkpfebhdgbgbaaGreatDoor.J
namespace Go.Proofs.YtpkpfebhdgbgbaaGreatDoor.J
open Go.RowKit
set_option linter.unusedVariables false

/-- A slice of texts. -/
def StrsAt (w : World) (v : Value) (xs : List ByteArray) : Prop :=
  ∃ ad c, v = .slice ad xs.length c ∧ xs.length ≤ c ∧ c ≤ maxLen ∧ ∀ (i : Nat) (h : i < xs.length), ∃ a : Addr, ad = some a ∧ a.spot = none ∧ w.cell? ⟨a.block, a.off + i, none⟩ = some (.string xs[i])
theorem strs_of_own {w : World} {b : Nat} {v : Value} {L : List ByteArray} (h : w.ownsRow b 9 1 v L.length (strVals L)) : StrsAt w v L := by
  rcases h.2 with ⟨rfl, h0⟩ | ⟨g, cap, cur, rfl, _, hg, hnc, hcm, hcs, ht⟩
  · have : L = [] := List.eq_nil_of_length_eq_zero h0
    subst this
    exact ⟨none, 0, rfl, Nat.le_refl _, Nat.zero_le _, fun i hi => absurd hi (Nat.not_lt_zero _)⟩
  · refine ⟨_, cap, rfl, hnc, hcm, fun i hi => ⟨_, rfl, rfl, ?_⟩⟩
    have h1 := congrArg (fun z => z[i]?) ht
    simp only [List.getElem?_take] at h1
    rw [if_pos (by omega)] at h1
    rw [cell_of hg, ← Array.getElem?_toList, Nat.zero_add, h1]
    simp [strVals, hi]

end Go.Proofs.YtpkpfebhdgbgbaaGreatDoor.J
namespace Go.Proofs.YtpkpfebhdgbgbaaGreatDoor.J
open Go.RowKit
set_option linter.unusedSimpArgs false
set_option linter.unusedVariables false

/-! What it answers, in plain Lean. -/
def catL : List ByteArray → ByteArray
  | [] => ⟨#[]⟩
  | s :: l => s ++ catL l
/-- So many bytes are taken of sections: what is left of the one that is begun, and those behind it. -/
def advG : List ByteArray → Nat → ByteArray × List ByteArray
  | [], _ => (⟨#[]⟩, [])
  | x :: l, m => if m = 0 then (⟨#[]⟩, x :: l) else if m < x.size then (x.extract m x.size, l) else advG l (m - x.size)
def packG : Nat → ByteArray → List ByteArray → List (Bool × ByteArray)
  | 0, _, _ => []
  | k + 1, t, l =>
    if (t ++ catL l).size = 0 then []
    else if 183 ≤ t.size then (false, t.extract 0 (min t.size 184)) :: packG k (t.extract (min t.size 184) t.size) l
    else if t.size ≠ 0 ∧ l = [] then [(false, fillG t)]
    else (true, fillG (strOfNums [(t.size : Int)] ++ (t ++ catL l).extract 0 (min 183 (t ++ catL l).size))) ::
      packG k (advG l (min 183 (t ++ catL l).size - t.size)).1 (advG l (min 183 (t ++ catL l).size - t.size)).2

theorem append_nil (s : ByteArray) : s ++ (⟨#[]⟩ : ByteArray) = s := ByteArray.append_empty
theorem nil_append (s : ByteArray) : (⟨#[]⟩ : ByteArray) ++ s = s := ByteArray.empty_append
theorem extract_whole (s : ByteArray) : s.extract 0 s.size = s := ByteArray.extract_zero_size
theorem extract_left (a b : ByteArray) (i : Nat) (h : i ≤ a.size) : (a ++ b).extract 0 i = a.extract 0 i := by
  rw [ByteArray.extract_append, Nat.zero_sub, show i - a.size = 0 by omega, ByteArray.extract_same]; exact append_nil _
theorem extract_right (a b : ByteArray) (i : Nat) (h : i ≤ a.size) : (a ++ b).extract i (a ++ b).size = a.extract i a.size ++ b := by
  rw [ByteArray.extract_append, show i - a.size = 0 by omega, ByteArray.size_append, show a.size + b.size - a.size = b.size by omega, extract_whole]
  congr 1
  apply ByteArray.ext
  rw [ByteArray.data_extract, ByteArray.data_extract]
  have h1 : a.data.size = a.size := rfl
  apply Array.ext
  · simp only [Array.size_extract]; omega
  · intro j g1 g2; simp only [Array.getElem_extract]
theorem extract_behind (a b : ByteArray) (i : Nat) (h : a.size ≤ i) : (a ++ b).extract i (a ++ b).size = b.extract (i - a.size) b.size := by
  rw [ByteArray.extract_append, ByteArray.size_append, show a.size + b.size - a.size = b.size by omega]
  rw [show a.extract i (a.size + b.size) = ⟨#[]⟩ from ByteArray.extract_eq_empty_iff.2 (by omega)]
  exact nil_append _
theorem adv_cat : ∀ (l : List ByteArray) (m : Nat), m ≤ (catL l).size → (advG l m).1 ++ catL (advG l m).2 = (catL l).extract m (catL l).size
  | [], m, h => by
    have : m = 0 := by simpa [catL, ByteArray.size] using h
    subst this; rfl
  | x :: l, m, h => by
    unfold advG
    by_cases h0 : m = 0
    · subst h0
      rw [if_pos rfl]
      simp only
      rw [nil_append, extract_whole]
    · rw [if_neg h0]
      by_cases h1 : m < x.size
      · rw [if_pos h1]
        simp only
        exact (extract_right x (catL l) m (by omega)).symm
      · rw [if_neg h1, adv_cat l (m - x.size) (by rw [catL, ByteArray.size_append] at h; omega)]
        exact (extract_behind x (catL l) m (by omega)).symm
theorem pack_nil (k : Nat) {t : ByteArray} {l : List ByteArray} (h : (t ++ catL l).size = 0) : packG k t l = [] := by
  cases k with
  | zero => rfl
  | succ k => rw [packG, if_pos h]
theorem pack_rest (k : Nat) {t : ByteArray} {l : List ByteArray} (h0 : ¬ (t ++ catL l).size = 0) (h : 183 ≤ t.size) :
    packG (k + 1) t l = (false, t.extract 0 (min t.size 184)) :: packG k (t.extract (min t.size 184) t.size) l := by
  rw [packG, if_neg h0, if_pos h]
theorem pack_last (k : Nat) {t : ByteArray} (h0 : ¬ t.size = 0) (h : ¬ 183 ≤ t.size) : packG (k + 1) t [] = [(false, fillG t)] := by
  rw [packG, if_neg (by rw [catL, append_nil]; exact h0), if_neg h, if_pos ⟨h0, rfl⟩]
theorem pack_begin (k : Nat) {t : ByteArray} {l : List ByteArray} (h0 : ¬ (t ++ catL l).size = 0) (h : ¬ 183 ≤ t.size) (h1 : ¬ (t.size ≠ 0 ∧ l = [])) :
    packG (k + 1) t l = (true, fillG (strOfNums [(t.size : Int)] ++ (t ++ catL l).extract 0 (min 183 (t ++ catL l).size))) ::
      packG k (advG l (min 183 (t ++ catL l).size - t.size)).1 (advG l (min 183 (t ++ catL l).size - t.size)).2 := by
  rw [packG, if_neg h0, if_neg h, if_neg h1]

def pkV (p : Bool × ByteArray) : List Value := [.int .i64 0, .bool p.1, .int .i64 0, .bool false, .string p.2]
def pkVals (L : List (Bool × ByteArray)) : List Value := L.flatMap pkV
theorem length_pkVals (L : List (Bool × ByteArray)) : (pkVals L).length = L.length * 5 := by
  induction L with
  | nil => rfl
  | cons p L ih => simp only [pkVals, List.flatMap_cons, List.length_append, List.length_cons] at ih ⊢; rw [ih]; simp [pkV]; omega
theorem pkZ_cells : (Value.agg #[.int .i64 0, .bool false, .int .i64 0, .bool false, .string ByteArray.empty]).cells.size = 5 := by kernel_rfl
theorem one_pk (p : Bool × ByteArray) : ∀ u ∈ pkV p, u.oneCell' = true := by
  intro u hu
  simp only [pkV, List.mem_cons, List.not_mem_nil, or_false] at hu
  rcases hu with rfl | rfl | rfl | rfl | rfl <;> rfl
theorem row_newN (w : World) (c : Array Value) (e n k : Nat) (h : c.size = n * k) (hm : n ≤ maxLen) :
    (w.alloc (.cells c e)).ownsRow 0 e k (.slice (some ⟨w.heap.size, 0, none⟩) n n) n c.toList :=
  ⟨by simp [h], .inr ⟨w.heap.size, n, c, rfl, Nat.zero_le _, heap_alloc_new w _, Nat.le_refl _, hm, by simp [h], by rw [List.take_of_length_le (by simp [h])]⟩⟩
theorem pkVals_snoc (L : List (Bool × ByteArray)) (p : Bool × ByteArray) : pkVals L ++ pkV p = pkVals (L ++ [p]) := by simp [pkVals]
def lenS (v : Value) : Nat := match v with | .string s => s.size | _ => 0

/-- What is left of a conversion whose cells are no bytes. -/
noncomputable def slowConv (g n c : Nat) (W : World) : Result Value := (convert 33 9 (.slice (some ⟨g, 0, none⟩) n c)).run Tryz.prog W
theorem conv1 (W : World) (g c : Nat) : (convert 33 9 (.slice (some ⟨g, 0, none⟩) 1 c)).run Tryz.prog W =
    (match W.cell? ⟨g, 0, none⟩ with | some (.int .u8 a0) => .ok (.string (strOfNums [a0])) W | _ => slowConv g 1 c W) := by
  split
  · rename_i a0 h0
    refine run_convert_bytes_arg W _ 5 Tryz.underlying33 Tryz.underlying5 g 0 1 c [a0] rfl (fun i hi => ?_) _ Tryz.underlying9
    have hi' : i = 0 := by omega
    subst hi'
    · exact h0
  · rfl
theorem snums (xs : List Int) : (strOfNums xs).size = xs.length := strOfNums_size xs
theorem int_sub (a b : Int) (n : Nat) (h : a - b = n) (hn : n < 1000000000000000) : Value.int .i64 (wrap64 (a - b)) = .int .i64 n := by rw [h, IntWalk.wrap64_in _ (by omega)]

section
variable {P : Program} {w : World}
/-- append, as one step of a region that draws its order. -/
theorem step_append_src {ops : Array Oper} {o : Oper} {a : Act} {K : Act → World → Prop} {Q : Exit → Act → World → Prop} {E : Prop}
    (hg : o.guard = none) (s x : Operand) (t : TypeId) (hop : o.op = Op.call { callee := Callee.builtin Builtin.append, args := #[s, x], argTypes := #[t, t] })
    (base : Nat) (e : TypeId) (i : TypeInfo) (z : Value) (size bytes : Nat) (ht : P.underlying t = some (.slice e)) (hi : P.info? e = some i) (hz : i.zero = some z)
    (hsize : i.size = size) (hby : i.bytes = bytes) (hzs : z.cells.size = size) (hsz : 0 < size)
    (v : Value) (n : Nat) (xs : List Value) (hs : a.eval s = v) (hown : w.ownsRow base e size v n xs)
    (sv : Value) (m : Nat) (ys : List Value) (hx : a.eval x = sv) (hr : Reads w size sv m ys) (h1 : ∀ u ∈ ys, u.oneCell' = true)
    (h63 : n + m ≤ maxLen) (hbytes : (n + m) * bytes ≤ 140737488355328) (hbase : base ≤ w.heap.size)
    (hK : ∀ v' w', w'.ownsRow base e size v' (n + m) (xs ++ ys) → w.grownBy w' v.ownBlock → (v'.ownBlock = v.ownBlock ∨ v'.ownBlock = some w.heap.size) → K (a.put o.dst v') w') :
    if Region.wanted o (yielded ops a.tmps) = true then Oper.wp P o a w K Q else E := by
  have hw : Region.wanted o (yielded ops a.tmps) = true := by simp [Region.wanted, hg]
  rw [if_pos hw]
  obtain ⟨v', w', hrun, h2, h3, h5⟩ := run_append_src (P := P) base t o.type e i z size bytes ht hi hz hsize hby hzs hsz v n xs hown sv m ys hr h1 h63 hbytes hbase
  unfold Oper.wp
  simp only [execOp, hop, resolve, invoke, builtin, Sem.run_bind, Sem.run_pure, Result.andThen_ok, List.map_toArray, List.map_cons, List.map_nil, hs, hx, hrun]
  exact hK v' w' h2 h3 h5
/-- A call, as one step of such a region. -/
theorem step_enter {ops : Array Oper} {o : Oper} {a : Act} {K : Act → World → Prop} {Q : Exit → Act → World → Prop} {E : Prop}
    (hg : o.guard = none) (f : Nat) (args : Array Value) (hrun : (execOp a.eval o).run P w = .ok (.enter f args) w)
    (Post : Ending → World → Prop) (hc : Calls P f args w Post) (hK : ∀ e w', Post e w' → ∃ v, e = .returned v ∧ K (a.put o.dst v) w') :
    if Region.wanted o (yielded ops a.tmps) = true then Oper.wp P o a w K Q else E := by
  have hw : Region.wanted o (yielded ops a.tmps) = true := by simp [Region.wanted, hg]
  rw [if_pos hw]
  unfold Oper.wp
  rw [hrun, Oper.upon_enter]
  exact hc.mono fun e w' h => by
    obtain ⟨v, rfl, hk⟩ := hK e w' h
    exact hk
end

theorem catL_append : ∀ (a b : List ByteArray), catL (a ++ b) = catL a ++ catL b
  | [], b => (nil_append _).symm
  | x :: a, b => by rw [List.cons_append, catL, catL, catL_append a b, ByteArray.append_assoc]
theorem catL_one (x : ByteArray) : catL [x] = x := append_nil x
theorem suffix_cell {w : World} {ad : Option Addr} {L pre ls : List ByteArray} {x : ByteArray} (hc : ∀ (i : Nat) (h : i < L.length), ∃ a : Addr, ad = some a ∧ a.spot = none ∧ w.cell? ⟨a.block, a.off + i, none⟩ = some (.string L[i])) (h : L = pre ++ x :: ls) :
    ∃ g o, ad = some ⟨g, o, none⟩ ∧ w.cell? ⟨g, o + pre.length, none⟩ = some (.string x) := by
  subst h
  obtain ⟨⟨g, o, sp⟩, rfl, hs, hx⟩ := hc pre.length (by simp)
  simp only at hs; subst hs
  exact ⟨g, o, rfl, by simpa using hx⟩

/-- How the packets stand, some of them made. -/
structure BdAt (L : List ByteArray) (k : Nat) (t : ByteArray) (pre ls : List ByteArray) (out : List (Bool × ByteArray)) : Prop where
  all : L = pre ++ ls
  fuel : (t ++ catL ls).size ≤ k
  few : out.length + (t ++ catL ls).size ≤ (catL L).size
  packs : packG (catL L).size ⟨#[]⟩ L = out ++ packG k t ls
theorem BdAt.start (L : List ByteArray) : BdAt L (catL L).size ⟨#[]⟩ [] L [] := ⟨rfl, by rw [nil_append]; exact Nat.le_refl _, by rw [nil_append]; exact Nat.le_of_eq (Nat.zero_add _), rfl⟩

/-- So many bytes of sections, in the making. -/
def AdvAt (ls : List ByteArray) (M : Nat) (t' : ByteArray) (ls' : List ByteArray) (m : Nat) : Prop := (t' = ⟨#[]⟩ ∧ advG ls M = advG ls' m) ∨ (m = 0 ∧ advG ls M = (t', ls'))
theorem AdvAt.done {ls : List ByteArray} {M : Nat} {t' : ByteArray} {ls' : List ByteArray} {m : Nat} (h : AdvAt ls M t' ls' m) (h0 : m = 0 ∨ ls' = []) : advG ls M = (t', ls') := by
  rcases h with ⟨rfl, h⟩ | ⟨_, h⟩
  · rw [h]
    cases ls' with
    | nil => rfl
    | cons x l =>
      rcases h0 with rfl | h0
      · rw [advG, if_pos rfl]
      · cases h0
  · exact h

theorem mem_size : ∀ {L : List ByteArray} {x : ByteArray}, x ∈ L → x.size ≤ (catL L).size
  | y :: L, x, h => by
    rw [catL, ByteArray.size_append]
    rcases List.mem_cons.1 h with rfl | h
    · omega
    · have := mem_size h; omega
theorem fr_next {w0 W : World} {v v' : Value} (h : v'.ownBlock = v.ownBlock ∨ v'.ownBlock = some W.heap.size) (hf : ∀ b, v.ownBlock = some b → w0.heap.size ≤ b) (hs : Same [] w0 W) : ∀ b, v'.ownBlock = some b → w0.heap.size ≤ b := by
  intro b hb
  rcases h with h | h
  · rw [h] at hb; exact hf b hb
  · rw [h] at hb; cases hb; exact hs.size
theorem sm_next {w0 W w4 : World} {v : Value} (hg : W.grownBy w4 v.ownBlock) (hf : ∀ b, v.ownBlock = some b → w0.heap.size ≤ b) (hs : Same [] w0 W) : Same [] w0 w4 :=
  hs.trans (Same.of_grown hg) (fun x hx hlt => by have := hf x (by simpa using hx); omega)

end Go.Proofs.YtpkpfebhdgbgbaaGreatDoor.J
