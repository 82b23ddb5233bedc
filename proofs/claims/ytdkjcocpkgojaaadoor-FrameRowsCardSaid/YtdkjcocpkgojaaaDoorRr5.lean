/- The reference's frame in the world: its cells, its rows of texts and of places; Add and Padding. Conditions: as the contracts say. The reference's Padding. Condition: as the contract says. The reference's Add. Condition: as the contract says. The reference's Column and Data: which bytes they are. Conditions: as the contracts say. -/
import Derived.Test.YtdkjcocpkgojaaaDoorLw4
import Derived.Deep.RegionLaw
namespace Go.Proofs.YtdkjcocpkgojaaaDoor
open Go.RowKit
open Dg (checkE rcheck_any)
set_option linter.unusedSimpArgs false
set_option linter.unusedVariables false

theorem Tryd.infoI : (Tryd.prog.info? 3).map (fun i => (i.zero, i.size, i.bytes)) = some (some (.int .i64 0), 1, 8) := by kernel_rfl
def il (xs : List Int) : List Value := xs.map (Value.int .i64)
def OwnI (B : Nat) (w : World) (v : Value) (l : List Int) : Prop := w.ownsRow B 3 1 v l.length (il l)
theorem OwnI.nums {B : Nat} {w : World} {v : Value} {xs : List Int} (h : OwnI B w v xs) : NumsAt w v xs := by
  rcases h.2 with ⟨rfl, h0⟩ | ⟨g, cap, cur, rfl, _, hg, hnc, hcm, hcs, ht⟩
  · have : xs = [] := List.eq_nil_of_length_eq_zero h0
    subst this
    exact ⟨none, 0, rfl, Nat.le_refl _, Nat.zero_le _, fun i hi => absurd hi (Nat.not_lt_zero _)⟩
  · refine ⟨_, cap, rfl, hnc, hcm, fun i hi => ⟨_, rfl, rfl, ?_⟩⟩
    have h1 := congrArg (fun z => z[i]?) ht
    simp only [List.getElem?_take] at h1
    rw [if_pos (by omega)] at h1
    rw [cell_of hg, ← Array.getElem?_toList, Nat.zero_add, h1]
    simp [il, hi]
theorem readsI_one (wr : World) (n : Int) : Reads (wr.alloc (.cells #[.int .i64 n] 3)) 1 (.slice (some ⟨wr.heap.size, 0, none⟩) 1 1) 1 (il [n]) :=
  Reads.of_own (row_new wr #[.int .i64 n] 3 1 rfl (by decide))
theorem one_il (l : List Int) : ∀ u ∈ il l, u.oneCell' = true := by
  intro u hu
  simp only [il, List.mem_map] at hu
  obtain ⟨a, _, rfl⟩ := hu
  rfl
section
variable {P : Program} {w : World}
/-- append, as one step of a region that draws its order. -/
theorem step_append_src {ops : Array Oper} {o : Oper} {a : Act} {K : Act → World → Prop} {Q : Exit → Act → World → Prop} {E : Prop}
    (hg : o.guard = none) (s x : Operand) (t : TypeId) (hop : o.op = Op.call { callee := Callee.builtin Builtin.append, args := #[s, x], argTypes := #[t, t] })
    (base : Nat) (e : TypeId) (i : TypeInfo) (z : Value) (size bytes : Nat) (ht : P.underlying t = some (.slice e)) (hi : P.info? e = some i) (hz : i.zero = some z)
    (hsize : i.size = size) (hby : i.bytes = bytes) (hzs : z.cells.size = size) (hsz : 0 < size)
    (v : Value) (n : Nat) (xs : List Value) (hs : a.eval s = v) (hown : w.ownsRow base e size v n xs)
    (sv : Value) (m : Nat) (ys : List Value) (hx : a.eval x = sv) (hr : Reads w size sv m ys) (h1 : ∀ u ∈ ys, u.oneCell' = true)
    (h63 : n + m ≤ maxLen) (hbytes : (n + m) * bytes ≤ 140737488355328) (hbase : base ≤ w.heap.size)
    (hK : ∀ v' w', w'.ownsRow base e size v' (n + m) (xs ++ ys) → w.grownBy w' v.ownBlock → (v'.ownBlock = v.ownBlock ∨ v'.ownBlock = some w.heap.size) → K (a.put o.dst v') w') :
    if Region.wanted o (yielded ops a.tmps) = true then Oper.wp P o a w K Q else E := by
  have hw : Region.wanted o (yielded ops a.tmps) = true := by simp [Region.wanted, hg]
  rw [if_pos hw]
  obtain ⟨v', w', hrun, h2, h3, h5⟩ := run_append_src (P := P) base t o.type e i z size bytes ht hi hz hsize hby hzs hsz v n xs hown sv m ys hr h1 h63 hbytes hbase
  unfold Oper.wp
  simp only [execOp, hop, resolve, invoke, builtin, Sem.run_bind, Sem.run_pure, Result.andThen_ok, List.map_toArray, List.map_cons, List.map_nil, hs, hx, hrun]
  exact hK v' w' h2 h3 h5
end

def rfC (R C K : Nat) (lv av : Value) (n : Nat) : Array Value := #[.int .i64 (R : Int), .int .i64 (C : Int), .int .i64 (K : Int), lv, av, .int .i64 (n : Int)]
structure RfIn (w : World) (cl : List Nat) (x R C K : Nat) (lv av : Value) (n : Nat) (D : List ByteArray) (I : List Int) : Prop where
  head : w.heap[x]? = some (.cells (rfC R C K lv av n) 54 (0, 0))
  strs : OwnS 0 w lv D
  ats : OwnI 0 w av I
  inx : x ∈ cl
  ol : ∀ q, lv.ownBlock = some q → q ∈ cl ∧ q ≠ x
  oa : ∀ q, av.ownBlock = some q → q ∈ cl ∧ q ≠ x ∧ lv.ownBlock ≠ some q
  below : ∀ y ∈ cl, y < w.heap.size
theorem RfIn.cells {w : World} {cl : List Nat} {x R C K n : Nat} {lv av : Value} {D : List ByteArray} {I : List Int} (h : RfIn w cl x R C K lv av n D I) :
    w.cell? ⟨x, 0, none⟩ = some (.int .i64 (R : Int)) ∧ w.cell? ⟨x, 1, none⟩ = some (.int .i64 (C : Int)) ∧ w.cell? ⟨x, 2, none⟩ = some (.int .i64 (K : Int)) ∧ w.cell? ⟨x, 3, none⟩ = some lv ∧ w.cell? ⟨x, 4, none⟩ = some av ∧ w.cell? ⟨x, 5, none⟩ = some (.int .i64 (n : Int)) ∧ ∀ i, w.frozen? ⟨x, i, none⟩ = false := by
  have hh := h.head
  refine ⟨?_, ?_, ?_, ?_, ?_, ?_, fun i => free_of hh i⟩ <;> rw [cell_of hh] <;> rfl
theorem RfIn.same {w w' : World} {S cl : List Nat} {x R C K n : Nat} {lv av : Value} {D : List ByteArray} {I : List Int} (h : RfIn w cl x R C K lv av n D I) (hs : Same S w w') (hn : ∀ y ∈ cl, y ∉ S) : RfIn w' cl x R C K lv av n D I :=
  { h with
    head := hs.heap h.head (hn _ h.inx)
    strs := own_same h.strs hs (fun k hk => hn _ (h.ol k hk).1)
    ats := own_same h.ats hs (fun k hk => hn _ (h.oa k hk).1)
    below := fun y hy => Nat.lt_of_lt_of_le (h.below y hy) hs.size }
/-- One step goes on: what turns lies in cl, the blocks behind it are of cl or new. -/
def RfNext (cl : List Nat) (w w' : World) (cl' : List Nat) : Prop := Same cl w w' ∧ ∀ y ∈ cl', y ∈ cl ∨ w.heap.size ≤ y
theorem RfNext.trans {cl cl1 cl2 : List Nat} {w w1 w2 : World} (h : RfNext cl w w1 cl1) (k : RfNext cl1 w1 w2 cl2) : RfNext cl w w2 cl2 :=
  ⟨h.1.trans k.1 (fun y hy hlt => (h.2 y hy).resolve_right (by omega)), fun y hy => by
    rcases k.2 y hy with h1 | h1
    · exact h.2 y h1
    · exact .inr (Nat.le_trans h.1.size h1)⟩
theorem RfIn.push_str {w w1 w3 : World} {cl : List Nat} {x R C K n : Nat} {lv av v3 : Value} {D : List ByteArray} {I : List Int} {d : ByteArray} (h : RfIn w cl x R C K lv av n D I) (hs : Same [] w w1)
    (hown : w3.ownsRow 0 9 1 v3 (D.length + 1) (sl D ++ sl [d])) (hg : w1.grownBy w3 lv.ownBlock) (hat : v3.ownBlock = lv.ownBlock ∨ v3.ownBlock = some w1.heap.size) :
    RfIn (w3.setCell ⟨x, 3, none⟩ v3) (cl ++ v3.ownBlock.toList) x R C K v3 av n (D ++ [d]) I ∧ RfNext cl w (w3.setCell ⟨x, 3, none⟩ v3) (cl ++ v3.ownBlock.toList) := by
  have hx := h.below x h.inx
  have h1 := hs.size
  have hs3 : Same lv.ownBlock.toList w w3 := (hs.mono (T := lv.ownBlock.toList) (fun x hx => by simp at hx)).trans (Same.of_grown hg) (fun x hx _ => hx)
  have hxl : x ∉ lv.ownBlock.toList := fun hm => (h.ol x (by simpa using hm)).2 rfl
  have head3 := hs3.heap h.head hxl
  have hset : Same [x] w3 (w3.setCell ⟨x, 3, none⟩ v3) := (Same.refl [x] w3).setCell (fun _ => by simp) _
  have hv : ∀ q, v3.ownBlock = some q → (q ∈ cl ∨ w1.heap.size ≤ q) ∧ q ≠ x ∧ av.ownBlock ≠ some q := fun q hq => by
    rcases hat with h9 | h9
    · rw [h9] at hq
      exact ⟨.inl (h.ol q hq).1, (h.ol q hq).2, fun h8 => (h.oa q h8).2.2 hq⟩
    · rw [h9] at hq
      injection hq with hq
      exact ⟨.inr (by omega), by omega, fun h8 => by have := h.below q (h.oa q h8).1; omega⟩
  have h3 := hs3.size
  have h4 := hset.size
  refine ⟨{ head := ?_, strs := ?_, ats := ?_, inx := List.mem_append_left _ h.inx, ol := fun q hq => ⟨List.mem_append_right _ (by simp [hq]), (hv q hq).2.1⟩, oa := fun q hq => ⟨List.mem_append_left _ (h.oa q hq).1, (h.oa q hq).2.1, fun h8 => (hv q h8).2.2 hq⟩, below := ?_ }, ?_, ?_⟩
  · refine (set_same head3 _).trans ?_
    simp [rfC]
  · unfold OwnS
    rw [List.length_append, List.length_singleton, show sl (D ++ [d]) = sl D ++ sl [d] from List.map_append ..]
    exact own_same (S := [x]) hown hset (fun k hk => by simpa using (hv k hk).2.1)
  · refine own_same (S := [x]) (own_same h.ats hs3 (fun k hk hm => (h.oa k hk).2.2 (by simpa using hm))) hset (fun k hk => by simpa using (h.oa k hk).2.1)
  · intro y hy
    rcases List.mem_append.1 hy with hy | hy
    · have := h.below y hy; omega
    · have := (World.ownsRow.lt hown y (by simpa using hy)).2; omega
  · refine (hs3.mono (T := cl) (fun y hy _ => (h.ol y (by simpa using hy)).1)).trans hset (fun y hy _ => ?_)
    rw [List.mem_singleton] at hy
    rw [hy]; exact h.inx
  · intro y hy
    rcases List.mem_append.1 hy with hy | hy
    · exact .inl hy
    · rcases (hv y (by simpa using hy)).1 with h8 | h8
      · exact .inl h8
      · exact .inr (by omega)
theorem RfIn.push_int {w w1 w3 : World} {cl : List Nat} {x R C K n : Nat} {lv av v3 : Value} {D : List ByteArray} {I : List Int} {m : Int} (h : RfIn w cl x R C K lv av n D I) (hs : Same [] w w1)
    (hown : w3.ownsRow 0 3 1 v3 (I.length + 1) (il I ++ il [m])) (hg : w1.grownBy w3 av.ownBlock) (hat : v3.ownBlock = av.ownBlock ∨ v3.ownBlock = some w1.heap.size) :
    RfIn (w3.setCell ⟨x, 4, none⟩ v3) (cl ++ v3.ownBlock.toList) x R C K lv v3 n D (I ++ [m]) ∧ RfNext cl w (w3.setCell ⟨x, 4, none⟩ v3) (cl ++ v3.ownBlock.toList) := by
  have hx := h.below x h.inx
  have h1 := hs.size
  have hs3 : Same av.ownBlock.toList w w3 := (hs.mono (T := av.ownBlock.toList) (fun x hx => by simp at hx)).trans (Same.of_grown hg) (fun x hx _ => hx)
  have hxl : x ∉ av.ownBlock.toList := fun hm => (h.oa x (by simpa using hm)).2.1 rfl
  have head3 := hs3.heap h.head hxl
  have hset : Same [x] w3 (w3.setCell ⟨x, 4, none⟩ v3) := (Same.refl [x] w3).setCell (fun _ => by simp) _
  have hv : ∀ q, v3.ownBlock = some q → (q ∈ cl ∨ w1.heap.size ≤ q) ∧ q ≠ x ∧ lv.ownBlock ≠ some q := fun q hq => by
    rcases hat with h9 | h9
    · rw [h9] at hq
      exact ⟨.inl (h.oa q hq).1, (h.oa q hq).2.1, (h.oa q hq).2.2⟩
    · rw [h9] at hq
      injection hq with hq
      exact ⟨.inr (by omega), by omega, fun h8 => by have := h.below q (h.ol q h8).1; omega⟩
  have h3 := hs3.size
  have h4 := hset.size
  refine ⟨{ head := ?_, strs := ?_, ats := ?_, inx := List.mem_append_left _ h.inx, ol := fun q hq => ⟨List.mem_append_left _ (h.ol q hq).1, (h.ol q hq).2⟩, oa := fun q hq => ⟨List.mem_append_right _ (by simp [hq]), (hv q hq).2⟩, below := ?_ }, ?_, ?_⟩
  · refine (set_same head3 _).trans ?_
    simp [rfC]
  · refine own_same (S := [x]) (own_same h.strs hs3 (fun k hk hm => (h.oa k (by simpa using hm)).2.2 hk)) hset (fun k hk => by simpa using (h.ol k hk).2)
  · unfold OwnI
    rw [List.length_append, List.length_singleton, show il (I ++ [m]) = il I ++ il [m] from List.map_append ..]
    exact own_same (S := [x]) hown hset (fun k hk => by simpa using (hv k hk).2.1)
  · intro y hy
    rcases List.mem_append.1 hy with hy | hy
    · have := h.below y hy; omega
    · have := (World.ownsRow.lt hown y (by simpa using hy)).2; omega
  · refine (hs3.mono (T := cl) (fun y hy _ => (h.oa y (by simpa using hy)).1)).trans hset (fun y hy _ => ?_)
    rw [List.mem_singleton] at hy
    rw [hy]; exact h.inx
  · intro y hy
    rcases List.mem_append.1 hy with hy | hy
    · exact .inl hy
    · rcases (hv y (by simpa using hy)).1 with h8 | h8
      · exact .inl h8
      · exact .inr (by omega)
theorem RfIn.set_used {w : World} {cl : List Nat} {x R C K n : Nat} {lv av : Value} {D : List ByteArray} {I : List Int} (m : Nat) (h : RfIn w cl x R C K lv av n D I) :
    RfIn (w.setCell ⟨x, 5, none⟩ (.int .i64 (m : Int))) cl x R C K lv av m D I ∧ RfNext cl w (w.setCell ⟨x, 5, none⟩ (.int .i64 (m : Int))) cl := by
  have hset : Same [x] w (w.setCell ⟨x, 5, none⟩ (.int .i64 (m : Int))) := (Same.refl [x] w).setCell (fun _ => by simp) _
  refine ⟨{ h with head := ?_, strs := own_same h.strs hset (fun k hk => by simpa using (h.ol k hk).2), ats := own_same h.ats hset (fun k hk => by simpa using (h.oa k hk).2.1), below := fun y hy => Nat.lt_of_lt_of_le (h.below y hy) hset.size }, hset.mono (fun y hy _ => by rw [List.mem_singleton] at hy; rw [hy]; exact h.inx), fun y hy => .inl hy⟩
  refine (set_same h.head _).trans ?_
  simp [rfC]
def atsI (D : List ByteArray) : List Int := (atsT D).map (fun n : Nat => (n : Int))
theorem atsI_snoc (D : List ByteArray) (d : ByteArray) : atsI (D ++ [d]) = atsI D ++ [((txt D).length : Int)] := by
  unfold atsI; rw [atsT_snoc, List.map_append]; rfl
theorem atsI_length (D : List ByteArray) : (atsI D).length = D.length := by unfold atsI; rw [List.length_map, atsT_length]
/-- The reference's frame, with datagrams. -/
def RefAt (w : World) (cl : List Nat) (x R C K : Nat) (D : List ByteArray) : Prop := ∃ lv av, RfIn w cl x R C K lv av (txt D).length D (atsI D)
theorem RefAt.same {w w' : World} {S cl : List Nat} {x R C K : Nat} {D : List ByteArray} (h : RefAt w cl x R C K D) (hs : Same S w w') (hn : ∀ y ∈ cl, y ∉ S) : RefAt w' cl x R C K D := by
  obtain ⟨lv, av, h⟩ := h; exact ⟨lv, av, h.same hs hn⟩
theorem RefAt.quiet {w w' : World} {cl : List Nat} {x R C K : Nat} {D : List ByteArray} (h : RefAt w cl x R C K D) (hs : Same [] w w') : RefAt w' cl x R C K D := h.same hs (fun _ _ => by simp)
theorem RefAt.below {w : World} {cl : List Nat} {x R C K : Nat} {D : List ByteArray} (h : RefAt w cl x R C K D) : ∀ y ∈ cl, y < w.heap.size := by
  obtain ⟨lv, av, h⟩ := h; exact h.below
end Go.Proofs.YtdkjcocpkgojaaaDoor
namespace Go.Proofs.YtdkjcocpkgojaaaDoor
open Go.RowKit
open Dg (checkE rcheck_any)
set_option linter.unusedSimpArgs false
set_option linter.unusedVariables false

set_option maxRecDepth 100000 in
theorem rpad_any {w : World} {cl : List Nat} {x R C K : Nat} {D : List ByteArray} (h : RefAt w cl x R C K D) (hR : 0 < R) (hR2 : R ≤ 1024) (hr : (txt D).length ≤ R * 191) :
    Calls Tryd.prog 38 #[.pointer (some ⟨x, 0, none⟩)] w (Ret (.int .i64 (padZ R (txt D).length)) w) := by
  obtain ⟨lv, av, h⟩ := h
  obtain ⟨c0, c1, c2, c3, c4, c5, cf0⟩ := h.cells
  obtain ⟨n, hn⟩ : ∃ n, n = (txt D).length := ⟨_, rfl⟩
  rw [← hn] at c5 hr ⊢
  have hb : n ≤ 1024 * 191 := Nat.le_trans hr (Nat.mul_le_mul hR2 (Nat.le_refl _))
  obtain ⟨q, hq⟩ : ∃ q, q = colsUsed R n := ⟨_, rfl⟩
  have hql : q ≤ 1000000 := by rw [hq]; unfold colsUsed; exact Nat.le_trans (Nat.div_le_self _ _) (by omega)
  have hz : padZ R n = 191 - (q : Int) := by rw [hq]; rfl
  rw [hz]
  obtain ⟨m, hm⟩ : ∃ m : Nat, m = n + R - 1 := ⟨_, rfl⟩
  have hmi : (n : Int) + (R : Int) - 1 = (m : Int) := by omega
  have hqm : q = m / R := by rw [hq, hm]; rfl
  have hd1 : (m : Int).tdiv (R : Int) = (q : Int) := by rw [hqm]; rfl
  have hd2 : (m : Int) / (R : Int) = (q : Int) := by rw [hqm]; rfl
  have hR0 : ((R : Int) == 0) = false := by simp; omega
  have hRi : (0 : Int) < (R : Int) := by omega
  have hw1 : IntKind.i64.wrap ((n : Int) + (R : Int)) = (n : Int) + (R : Int) := IntWalk.i64_in _ (by omega)
  have hw2 : IntKind.i64.wrap (m : Int) = (m : Int) := IntWalk.i64_in _ (by omega)
  have hw3 : IntKind.i64.wrap (q : Int) = (q : Int) := IntWalk.i64_in _ (by omega)
  have hw4 : IntKind.i64.wrap (191 - (q : Int)) = 191 - (q : Int) := IntWalk.i64_in _ (by omega)
  have hm9 : m < 1000000 := by omega
  clear h hn hr hb hq hz hqm hm
  go_enter Tryd.func38, Tryd.ntmps38
  go_wp2_with fail
  go_region
  all_goals
    go_wp2_with fail
    go_ret
    exact ⟨rfl, (Same.refl [] w).drew⟩
end Go.Proofs.YtdkjcocpkgojaaaDoor
namespace Go.Proofs.YtdkjcocpkgojaaaDoor
open Go.RowKit
open Dg (checkE rcheck_any)
set_option linter.unusedSimpArgs false
set_option linter.unusedVariables false

theorem radd_fin {w W8 : World} {cl cl8 : List Nat} {x R C K : Nat} {lv6 v4 : Value} {D : List ByteArray} {d : ByteArray} (h : RfIn W8 cl8 x R C K lv6 v4 (txt D).length (D ++ [d]) (atsI D ++ [((txt D).length : Int)])) (r : RfNext cl w W8 cl8) :
    ∃ cl', RefAt (W8.setCell ⟨x, 5, none⟩ (.int .i64 (((txt D).length : Int) + (d.size : Int)))) cl' x R C K (D ++ [d]) ∧ RfNext cl w (W8.setCell ⟨x, 5, none⟩ (.int .i64 (((txt D).length : Int) + (d.size : Int)))) cl' := by
  obtain ⟨q, k⟩ := h.set_used ((txt D).length + d.size)
  rw [Int.natCast_add] at q k
  refine ⟨cl8, ⟨lv6, v4, ?_⟩, r.trans k⟩
  rw [txt_snoc_length, atsI_snoc]
  exact q
def RAddPost (cl : List Nat) (x R C K : Nat) (D : List ByteArray) (d : ByteArray) (w : World) (e : Ending) (w' : World) : Prop :=
  e = .returned (.tuple #[.int .i64 (addR R C D d).1, .int .i64 (addR R C D d).2]) ∧ ∃ cl', RefAt w' cl' x R C K (addD R C D d) ∧ RfNext cl w w' cl'
set_option maxRecDepth 100000 in
set_option maxHeartbeats 8000000 in
theorem radd_any {cl : List Nat} {x R C K : Nat} {D : List ByteArray} (d : ByteArray) {w : World} (h : RefAt w cl x R C K D) (hlow : R ≤ 1024 ∧ C ≤ 191) (hroom : (txt D).length ≤ R * C) (hd : d.size ≤ 1000000000) (hD : D.length < 100) :
    Calls Tryd.prog 37 #[.pointer (some ⟨x, 0, none⟩), .string d] w (RAddPost cl x R C K D d w) := by
  obtain ⟨lv, av, h⟩ := h
  have H := Lib.hid h
  obtain ⟨c0, c1, c2, c3, c4, c5, cf0⟩ := h.cells
  have HC := Lib.hid (fun W => rcheck_any d W (by unfold maxLen; omega))
  obtain ⟨ce, hce⟩ : ∃ ce, ce = checkE d := ⟨_, rfl⟩
  obtain ⟨n, hn⟩ : ∃ n, n = (txt D).length := ⟨_, rfl⟩
  obtain ⟨rc, hrc⟩ : ∃ rc, rc = R * C := ⟨_, rfl⟩
  have hRC : R * C ≤ 1024 * 191 := Nat.mul_le_mul hlow.1 hlow.2
  have haR : addR R C D d = if ce ≠ 0 then ((0 : Int), ce) else if rc < n + d.size then ((0 : Int), (17 : Int)) else ((n : Int), (0 : Int)) := by unfold addR; rw [hce, hn, hrc]
  rw [← hce] at HC
  rw [← hrc] at hroom hRC
  rw [← hn] at c5 hroom
  unfold RAddPost addD
  by_cases h1 : ce = 0
  · have h1i : (ce == 0) = true := by simpa using h1
    have h1j : (ce != 0) = false := by simpa using h1
    rw [if_neg (fun h9 => h9 h1)] at haR
    have hmul : (R : Int) * (C : Int) = (rc : Int) := by rw [hrc, Int.natCast_mul]
    have g1 : -9223372036854775808 ≤ (rc : Int) ∧ (rc : Int) ≤ 9223372036854775807 := by omega
    have g2 : -9223372036854775808 ≤ (n : Int) + (d.size : Int) ∧ (n : Int) + (d.size : Int) ≤ 9223372036854775807 := by omega
    by_cases h2 : rc < n + d.size
    · rw [if_pos h2] at haR
      rw [haR]
      have h2i : decide ((rc : Int) < (n : Int) + (d.size : Int)) = true := decide_eq_true (by omega)
      have h2j : (rc : Int) < (n : Int) + (d.size : Int) := by omega
      have hw1 : IntKind.i64.wrap ((R : Int) * (C : Int)) = (rc : Int) := by rw [hmul]; exact IntWalk.i64_in _ g1
      have hw2 : IntKind.i64.wrap ((n : Int) + (d.size : Int)) = (n : Int) + (d.size : Int) := IntWalk.i64_in _ g2
      have hw5 : IntKind.i64.wrap (rc : Int) = (rc : Int) := IntWalk.i64_in _ g1
      clear h haR hce hn hrc hlow hroom hRC h1 h2
      go_enter Tryd.func37, Tryd.ntmps37
      go_wp2_with fail
      (with_reducible refine (HC.out _).mono ?_)
      rintro e w1 ⟨rfl, s1⟩
      have S1 := Lib.hid s1
      have d0 := s1.cell c0 (by simp); have d1 := s1.cell c1 (by simp); have d5 := s1.cell c5 (by simp)
      clear s1 c0 c1 c2 c3 c4 c5 cf0
      go_wp2_with fail
      go_region
      all_goals
        go_wp2_with fail
        go_ret2
        exact ⟨rfl, cl, ⟨lv, av, H.out.same S1.out.drew (fun _ _ => by simp)⟩, S1.out.drew.mono (fun y hy => by simp at hy), fun y hy => .inl hy⟩
    · rw [if_neg h2] at haR
      rw [haR]
      have h2i : decide ((rc : Int) < (n : Int) + (d.size : Int)) = false := decide_eq_false (by omega)
      have h2j : ¬ (rc : Int) < (n : Int) + (d.size : Int) := by omega
      obtain ⟨i0, hi, hz0, hz1, hz2⟩ := info_parts Tryd.infoS
      obtain ⟨j0, hj, hy0, hy1, hy2⟩ := info_parts Tryd.infoI
      have hfin : n + d.size ≤ rc := by omega
      have hrc9 : rc ≤ 195584 := by omega
      have HN := Lib.hid hn
      have hsub : (n : Int) + (d.size : Int) - (d.size : Int) = (n : Int) := by omega
      have hw1 : IntKind.i64.wrap ((R : Int) * (C : Int)) = (rc : Int) := by rw [hmul]; exact IntWalk.i64_in _ g1
      have hw2 : IntKind.i64.wrap ((n : Int) + (d.size : Int)) = (n : Int) + (d.size : Int) := IntWalk.i64_in _ g2
      have hw5 : IntKind.i64.wrap (rc : Int) = (rc : Int) := IntWalk.i64_in _ g1
      clear h haR hce hn hrc hlow hroom hRC h1 h2
      go_enter Tryd.func37, Tryd.ntmps37
      go_wp2_with fail
      (with_reducible refine (HC.out _).mono ?_)
      rintro e w1 ⟨rfl, s1⟩
      have S1 := Lib.hid s1.drew
      have d0 := s1.cell c0 (by simp); have d1 := s1.cell c1 (by simp); have d5 := s1.cell c5 (by simp)
      have HF := Lib.hid (H.out.same s1.drew (fun _ _ => by simp))
      clear s1 c0 c1 c2 c3 c4 c5 cf0
      go_wp2_with fail
      go_region
      clear hw1 hw2 hw5
      have d3 := HF.out.cells.2.2.2.1
      clear d0 d1 d5
      have m1 : D.length + 1 ≤ maxLen := by unfold maxLen; omega
      have n1 : (D.length + 1) * 16 ≤ 140737488355328 := by omega
      have hxl : x ∉ lv.ownBlock.toList := fun hm => (HF.out.ol x (by simpa using hm)).2 rfl
      have HXL := Lib.hid hxl
      clear hxl
      go_wp2_with (at_builtin; refine wpList_append_src rfl (.tmp 33) (.tmp 35) 43 rfl 0 9 i0 (.string ByteArray.empty) 1 16 Tryd.underlying43 hi hz0 hz1 hz2 rfl (by decide) _ D.length (sl D) rfl (by exact World.ownsRow.alloc HF.out.strs _) _ 1 (sl [d]) rfl (by exact readsS_one _ d) (one_sl [d]) m1 n1 (Nat.zero_le _) ?_; intro v2 w5 hown hgrow hat; obtain ⟨ad5, cp5, rfl⟩ := own_form hown; have hh5 := (Same.of_grown hgrow).heap ((Same.refl [] _).alloc _ |>.heap HF.out.head (by simp)) HXL.out; have k3 : w5.cell? ⟨x, 3, none⟩ = some lv := cell_of hh5 3; have f3 := free_of hh5 3; have HOWN := Lib.hid hown; have HGW := Lib.hid hgrow; have HAT := Lib.hid hat; clear hown hgrow hat hh5)
      obtain ⟨q1, r1⟩ := HF.out.push_str ((Same.refl [] w1.drew).alloc _) HOWN.out HGW.out HAT.out
      have Q1 := Lib.hid q1; have R1 := Lib.hid r1
      clear q1 r1 k3 f3
      obtain ⟨lv6, hlv6⟩ : ∃ u, u = Value.slice ad5 (D.length + 1) cp5 := ⟨_, rfl⟩
      obtain ⟨W6, hW6⟩ : ∃ W, W = w5.setCell ⟨x, 3, none⟩ (Value.slice ad5 (D.length + 1) cp5) := ⟨_, rfl⟩
      rw [← hW6] at Q1 R1 ⊢
      rw [← hlv6] at Q1 R1
      generalize cl ++ lv6.ownBlock.toList = cl6 at Q1 R1
      clear HOWN HGW HAT hW6 hlv6
      obtain ⟨g0, g1, g2, g3, g4, g5, gf0⟩ := Q1.out.cells
      have m2 : (atsI D).length + 1 ≤ maxLen := by rw [atsI_length]; exact m1
      have n2 : ((atsI D).length + 1) * 8 ≤ 140737488355328 := by rw [atsI_length]; omega
      have hxa : x ∉ av.ownBlock.toList := fun hm => (Q1.out.oa x (by simpa using hm)).2.1 rfl
      have HXA := Lib.hid hxa
      rw [← HN.out] at g5
      have g4a : (W6.alloc (.cells #[.int .i64 (n : Int)] 3)).cell? ⟨x, 4, none⟩ = some av := ((Same.refl [] W6).alloc _).cell g4 (by simp)
      clear hxa g0 g1 g2 g3 gf0
      go_wp2_with fail
      go_region_law (refine step_append_src rfl (.tmp 43) (.tmp 48) 52 rfl 0 3 j0 (.int .i64 0) 1 8 Tryd.underlying52 hj hy0 hy1 hy2 rfl (by decide) _ (atsI D).length (il (atsI D)) rfl (by exact World.ownsRow.alloc Q1.out.ats _) _ 1 (il [(n : Int)]) rfl (by exact readsI_one _ (n : Int)) (one_il [(n : Int)]) m2 n2 (Nat.zero_le _) ?_; intro v4 w7 hown hgrow hat; obtain ⟨ad7, cp7, rfl⟩ := own_form hown; have hh7 := (Same.of_grown hgrow).heap ((Same.refl [] _).alloc _ |>.heap Q1.out.head (by simp)) HXA.out; have k4 : w7.cell? ⟨x, 4, none⟩ = some av := cell_of hh7 4; have f4 := free_of hh7 4; have HOWN := Lib.hid hown; have HGW := Lib.hid hgrow; have HAT := Lib.hid hat; clear hown hgrow hat hh7)
      all_goals
        obtain ⟨q2, r2⟩ := Q1.out.push_int (by repeat (first | exact Same.refl _ _ | refine Same.drew ?_ | refine Same.alloc ?_ _)) HOWN.out HGW.out HAT.out
        have r0 : RfNext cl w w1.drew cl := ⟨S1.out.mono (fun y hy => by simp at hy), fun y hy => .inl hy⟩
        have r3 := (r0.trans R1.out).trans r2
        obtain ⟨lv8, hlv8⟩ : ∃ u, u = Value.slice ad7 ((atsI D).length + 1) cp7 := ⟨_, rfl⟩
        obtain ⟨W8, hW8⟩ : ∃ W, W = w7.setCell ⟨x, 4, none⟩ (Value.slice ad7 ((atsI D).length + 1) cp7) := ⟨_, rfl⟩
        rw [← hW8] at q2 r3 ⊢
        rw [← hlv8] at q2 r3
        rw [HN.out] at q2
        generalize cl6 ++ lv8.ownBlock.toList = cl8 at q2 r3
        clear HOWN HGW HAT hW8 hlv8 r2 r0 k4 f4 g4 g4a g5
        have Q2 := Lib.hid q2; have R3 := Lib.hid r3
        obtain ⟨h0, h1, h2, h3, h4, h5, hf⟩ := q2.cells
        rw [← HN.out] at h5
        have f5 := hf 5
        clear q2 r3 h0 h1 h2 h3 h4 hf
        go_wp2_with fail
        go_ret2
        rw [HN.out]
        exact ⟨rfl, radd_fin Q2.out R3.out⟩
  · have h1i : (ce == 0) = false := by simpa using h1
    have h1j : (ce != 0) = true := by simpa using h1
    rw [if_pos h1] at haR
    rw [haR]
    simp only [if_neg h1]
    clear h haR hce hn hrc hlow hroom hRC h1
    go_enter Tryd.func37, Tryd.ntmps37
    go_wp2_with fail
    (with_reducible refine (HC.out _).mono ?_)
    rintro e w1 ⟨rfl, s1⟩
    have S1 := Lib.hid s1
    clear s1
    go_wp2_with fail
    go_ret2
    exact ⟨rfl, cl, ⟨lv, av, H.out.same S1.out (fun _ _ => by simp)⟩, S1.out.mono (fun y hy => by simp at hy), fun y hy => .inl hy⟩
end Go.Proofs.YtdkjcocpkgojaaaDoor
namespace Go.Proofs.YtdkjcocpkgojaaaDoor
open Go.RowKit
open Dg (StrsAt)
set_option linter.unusedSimpArgs false
set_option linter.unusedVariables false

theorem txt_app (A B : List ByteArray) : txt (A ++ B) = txt A ++ txt B := by
  induction B using snocA with
  | h0 => rw [List.append_nil, txt_nil, List.append_nil]
  | hs B d ih => rw [← List.append_assoc, txt_snoc, ih, txt_snoc, List.append_assoc]
theorem txt_take_le (D : List ByteArray) (k : Nat) : (txt (D.take k)).length ≤ (txt D).length := by
  have h := txt_app (D.take k) (D.drop k)
  rw [List.take_append_drop] at h
  rw [h, List.length_append]; omega
theorem txt_take_succ (D : List ByteArray) (k : Nat) (h : k < D.length) : txt (D.take (k + 1)) = txt (D.take k) ++ lb D[k] := by
  rw [List.take_succ_eq_append_getElem h, txt_snoc]
set_option maxRecDepth 100000 in
set_option maxHeartbeats 8000000 in
theorem rcol_any {cl : List Nat} {x R C K : Nat} {D : List ByteArray} (n : Nat) {w : World} (h : RefAt w cl x R C K D) (hR : 0 < R) (hR2 : R ≤ 1024) (hr : (txt D).length ≤ R * 191) (hD : D.length ≤ 100) :
    Calls Tryd.prog 24 #[.pointer (some ⟨x, 0, none⟩), .int .i64 (n : Int)] w (Ret (.string (bs (colD R (txt D) n))) w) := by
  obtain ⟨lv, av, h⟩ := h
  obtain ⟨c0, c1, c2, c3, c4, c5, cf0⟩ := h.cells
  obtain ⟨ad, cp, rfl, hlc, hcm, hcell⟩ := h.strs.strs
  have HCELL := Lib.hid hcell
  have hb : (txt D).length ≤ 195584 := Nat.le_trans hr (Nat.mul_le_mul hR2 (Nat.le_refl _))
  have hmk : (Instr.makeSlice 38 (.int .i64 (R : Int)) (.int .i64 (R : Int))).run Tryd.prog w = .ok (.slice (some ⟨w.heap.size, 0, none⟩) R R) (w.alloc (.cells (madeCells #[.int .u8 0] R) 5)) := make_cap R R (Nat.le_refl _) (by omega) w
  have HRW := Lib.hid (by have h9 := rowF_made R (by omega) w; rw [← colD_nil R n] at h9; exact h9)
  obtain ⟨B, hB⟩ : ∃ B, B = w.heap.size := ⟨_, rfl⟩
  rw [← hB] at hmk HRW
  have HB := Lib.hid hB
  have HR := Lib.hid hr
  have hR0 : ((R : Int) == 0) = false := by simp; omega
  have hRi : (0 : Int) < (R : Int) := by omega
  have C0 := Lib.hid c0; have C3 := Lib.hid c3
  clear h hcell hB hr c1 c2 c4 c5 cf0
  go_enter Tryd.func24, Tryd.ntmps24
  go_wp2_with fail
  clear hmk c0 c3
  go_loopw [7, 6] (fun i at_ wr => ∃ k : Nat, k ≤ D.length ∧ i = .int .i64 k ∧ at_ = .int .i64 ((txt (D.take k)).length : Nat) ∧ RowF wr (.slice (some ⟨B, 0, none⟩) R R) B (u8l (colD R (txt (D.take k)) n)) ∧ Same [] w wr) (fun i _ _ => D.length - (intOf i).toNat)
  case atStart => exact ⟨0, Nat.zero_le _, rfl, rfl, HRW.out, (Same.refl [] w).alloc _⟩
  case round =>
    obtain ⟨k, hk, rfl, rfl, hrw, hsm⟩ := hrel
    have HRO := Lib.hid hrw; have HSM := Lib.hid hsm
    by_cases h1 : k < D.length
    · have h1i : (k : Int) < (D.length : Int) := by omega
      obtain ⟨a', rfl, hsp, q0⟩ := HCELL.out k h1
      obtain ⟨g, o, sp⟩ := a'
      simp only at hsp q0
      subst hsp
      have hts := txt_take_succ D k h1
      have hle := txt_take_le D (k + 1)
      obtain ⟨d, hd⟩ : ∃ d, d = D[k] := ⟨_, rfl⟩
      rw [← hd] at q0 hts
      obtain ⟨X, hX⟩ : ∃ X, X = txt (D.take k) := ⟨_, rfl⟩
      rw [← hX] at hts HRO ⊢
      rw [hts, List.length_append, lb_length] at hle
      have d3 := hsm.cell C3.out (by simp)
      have HTS := Lib.hid hts
      have Q0 := Lib.hid q0
      clear hrw hsm q0 hd hX hts
      go_wp2_with fail
      clear d3
      go_loopw [8, 6] (fun j at_ wr => ∃ m : Nat, m ≤ d.size ∧ j = .int .i64 m ∧ at_ = .int .i64 ((X.length + m : Nat) : Int) ∧ RowF wr (.slice (some ⟨B, 0, none⟩) R R) B (u8l (colD R (X ++ (lb d).take m) n)) ∧ Same [] w wr) (fun j _ _ => d.size - (intOf j).toNat)
      case atStart => exact ⟨0, Nat.zero_le _, rfl, rfl, by rw [List.take_zero, List.append_nil]; exact HRO.out, HSM.out⟩
      case round =>
        clear HRO HSM
        obtain ⟨m, hm, rfl, rfl, hrw, hsm⟩ := hrel
        have HRO := Lib.hid hrw; have HSM := Lib.hid hsm
        have d0 := hsm.cell C0.out (by simp)
        have d3 := hsm.cell C3.out (by simp)
        have e0 := hsm.cell Q0.out (by simp)
        clear hrw hsm
        by_cases h5 : m < d.size
        · have h5i : (m : Int) < (d.size : Int) := by omega
          obtain ⟨a, ha⟩ : ∃ a, a = X.length + m := ⟨_, rfl⟩
          have hbt := bt_at d m h5
          have htk := take_snoc (lb d) m (by rw [lb_length]; exact h5)
          obtain ⟨y, hy⟩ : ∃ y, y = cf (lb d) m := ⟨_, rfl⟩
          rw [← hy] at hbt htk
          have hlx : (X ++ (lb d).take m).length = a := by rw [List.length_append, List.length_take, lb_length, Nat.min_eq_left hm, ha]
          have hnx := colD_snoc (rows := R) (X ++ (lb d).take m) y n
          rw [List.append_assoc, ← htk, hlx] at hnx
          have ha9 : a < R * 191 := by have := HR.out; omega
          have ha8 : a < 1000000 := by omega
          obtain ⟨q, hq⟩ : ∃ q, q = a / R := ⟨_, rfl⟩
          obtain ⟨r, hr⟩ : ∃ r, r = a % R := ⟨_, rfl⟩
          have hrR : r < R := by rw [hr]; exact Nat.mod_lt _ hR
          have hqC : q < 191 := by rw [hq]; exact Nat.div_lt_of_lt_mul ha9
          have hq1 : (a : Int).tdiv (R : Int) = (q : Int) := by rw [hq]; rfl
          have hq2 : (a : Int) / (R : Int) = (q : Int) := by rw [hq]; rfl
          have hr1 : (a : Int).tmod (R : Int) = (r : Int) := by rw [hr]; rfl
          have hr2 : (a : Int) % (R : Int) = (r : Int) := by rw [hr]; rfl
          rw [← hq, ← hr] at hnx
          rw [← ha]
          have hri : (r : Int) < (R : Int) := by omega
          have hqi : (q : Int) < 191 := by omega
          have ha1 : ((a : Nat) : Int) + 1 = ((X.length + (m + 1) : Nat) : Int) := by omega
          have HA1 := Lib.hid ha1
          have hln : (colD R (X ++ (lb d).take m) n).length = R := colD_length _ _ _
          by_cases h6 : q = n
          · rw [if_pos h6] at hnx
            have h6i : ((q : Int) == (n : Int)) = true := by rw [beq_iff_eq]; omega
            have hset := rowF_set HRO.out r (by rw [hln]; exact hrR) y
            rw [← hnx] at hset
            have f1 : wr.frozen? ⟨B, r, none⟩ = false := by
              obtain ⟨c', z0, z1, _, _, h9⟩ := HRO.out
              rw [u8l_length, hln] at z1
              exact (h9 r (Nat.lt_of_lt_of_le hrR z1)).2
            have c9 := HRO.out.cell r (by rw [hln]; exact hrR)
            obtain ⟨y0, hy0⟩ : ∃ y0, y0 = cf (colD R (X ++ (lb d).take m) n) r := ⟨_, rfl⟩
            rw [← hy0] at c9
            have HSET := Lib.hid hset
            clear hy htk hlx hnx hq hr hset hln hy0 ha h6 ha9 ha1
            go_wp2_with fail
            go_region
            all_goals
              go_wp2_with fail
              go_roundw
              case rel => exact ⟨m + 1, by omega, by go_num, by rw [← HA1.out], HSET.out, (HSM.out.setCell (fun h9 => absurd (show B < w.heap.size from h9) (by rw [HB.out]; exact Nat.lt_irrefl _)) _).drew⟩
              case measure => simp [intOf]; omega
          · rw [if_neg h6] at hnx
            have h6i : ((q : Int) == (n : Int)) = false := by simp; omega
            have hset := HRO.out
            rw [← hnx] at hset
            have HSET := Lib.hid hset
            clear hy htk hlx hnx hq hr hset hln ha h6 ha9 ha1
            go_wp2_with fail
            go_roundw
            case rel => exact ⟨m + 1, by omega, by go_num, by rw [← HA1.out], HSET.out, HSM.out⟩
            case measure => simp [intOf]; omega
        · obtain rfl : m = d.size := by omega
          have h5i : ¬ (d.size : Int) < (d.size : Int) := by omega
          have htl : txt (D.take (k + 1)) = X ++ (lb d).take d.size := by rw [HTS.out, ← lb_length, List.take_length]
          have HTL := Lib.hid htl
          clear htl h5
          go_wp2_with fail
          go_roundw
          case rel => exact ⟨k + 1, by omega, by go_num, by rw [HTS.out, List.length_append, lb_length], by rw [HTL.out]; exact HRO.out, HSM.out⟩
          case measure => simp [intOf]; omega
    · obtain rfl : k = D.length := by omega
      have h1i : ¬ (D.length : Int) < (D.length : Int) := by omega
      rw [List.take_length] at hrw
      have hcv := hrw.str
      have d3 := hsm.cell C3.out (by simp)
      clear hrw hsm h1
      go_wp2_with fail
      go_ret
      exact ⟨rfl, HSM.out⟩
set_option maxRecDepth 100000 in
set_option maxHeartbeats 8000000 in
theorem rdata_any {cl : List Nat} {x R C K : Nat} {D : List ByteArray} (n : Nat) {w : World} (h : RefAt w cl x R C K D) (hR : 0 < R) (hR2 : R ≤ 1024) (hr : (txt D).length ≤ R * 191) (hD : D.length ≤ 100) (hn : n < R) :
    Calls Tryd.prog 27 #[.pointer (some ⟨x, 0, none⟩), .int .i64 (n : Int)] w (Ret (.string (bs (rowD R (txt D) n))) w) := by
  obtain ⟨lv, av, h⟩ := h
  obtain ⟨c0, c1, c2, c3, c4, c5, cf0⟩ := h.cells
  obtain ⟨ad, cp, rfl, hlc, hcm, hcell⟩ := h.strs.strs
  have HCELL := Lib.hid hcell
  have hb : (txt D).length ≤ 195584 := Nat.le_trans hr (Nat.mul_le_mul hR2 (Nat.le_refl _))
  have hmk : (Instr.makeSlice 38 (.int .i64 191) (.int .i64 191)).run Tryd.prog w = .ok (.slice (some ⟨w.heap.size, 0, none⟩) 191 191) (w.alloc (.cells (madeCells #[.int .u8 0] 191) 5)) := make_cap 191 191 (Nat.le_refl _) (by omega) w
  have HRW := Lib.hid (by have h9 := rowF_made 191 (by omega) w; rw [← rowD_nil R n] at h9; exact h9)
  obtain ⟨B, hB⟩ : ∃ B, B = w.heap.size := ⟨_, rfl⟩
  rw [← hB] at hmk HRW
  have HB := Lib.hid hB
  have HR := Lib.hid hr
  have hR0 : ((R : Int) == 0) = false := by simp; omega
  have hRi : (0 : Int) < (R : Int) := by omega
  have C0 := Lib.hid c0; have C3 := Lib.hid c3
  clear h hcell hB hr c1 c2 c4 c5 cf0
  go_enter Tryd.func27, Tryd.ntmps27
  go_wp2_with fail
  clear hmk c0 c3
  go_loopw [7, 6] (fun i at_ wr => ∃ k : Nat, k ≤ D.length ∧ i = .int .i64 k ∧ at_ = .int .i64 ((txt (D.take k)).length : Nat) ∧ RowF wr (.slice (some ⟨B, 0, none⟩) 191 191) B (u8l (rowD R (txt (D.take k)) n)) ∧ Same [] w wr) (fun i _ _ => D.length - (intOf i).toNat)
  case atStart => exact ⟨0, Nat.zero_le _, rfl, rfl, HRW.out, (Same.refl [] w).alloc _⟩
  case round =>
    obtain ⟨k, hk, rfl, rfl, hrw, hsm⟩ := hrel
    have HRO := Lib.hid hrw; have HSM := Lib.hid hsm
    by_cases h1 : k < D.length
    · have h1i : (k : Int) < (D.length : Int) := by omega
      obtain ⟨a', rfl, hsp, q0⟩ := HCELL.out k h1
      obtain ⟨g, o, sp⟩ := a'
      simp only at hsp q0
      subst hsp
      have hts := txt_take_succ D k h1
      have hle := txt_take_le D (k + 1)
      obtain ⟨d, hd⟩ : ∃ d, d = D[k] := ⟨_, rfl⟩
      rw [← hd] at q0 hts
      obtain ⟨X, hX⟩ : ∃ X, X = txt (D.take k) := ⟨_, rfl⟩
      rw [← hX] at hts HRO ⊢
      rw [hts, List.length_append, lb_length] at hle
      have d3 := hsm.cell C3.out (by simp)
      have HTS := Lib.hid hts
      have Q0 := Lib.hid q0
      clear hrw hsm q0 hd hX hts
      go_wp2_with fail
      clear d3
      go_loopw [8, 6] (fun j at_ wr => ∃ m : Nat, m ≤ d.size ∧ j = .int .i64 m ∧ at_ = .int .i64 ((X.length + m : Nat) : Int) ∧ RowF wr (.slice (some ⟨B, 0, none⟩) 191 191) B (u8l (rowD R (X ++ (lb d).take m) n)) ∧ Same [] w wr) (fun j _ _ => d.size - (intOf j).toNat)
      case atStart => exact ⟨0, Nat.zero_le _, rfl, rfl, by rw [List.take_zero, List.append_nil]; exact HRO.out, HSM.out⟩
      case round =>
        clear HRO HSM
        obtain ⟨m, hm, rfl, rfl, hrw, hsm⟩ := hrel
        have HRO := Lib.hid hrw; have HSM := Lib.hid hsm
        have d0 := hsm.cell C0.out (by simp)
        have d3 := hsm.cell C3.out (by simp)
        have e0 := hsm.cell Q0.out (by simp)
        clear hrw hsm
        by_cases h5 : m < d.size
        · have h5i : (m : Int) < (d.size : Int) := by omega
          obtain ⟨a, ha⟩ : ∃ a, a = X.length + m := ⟨_, rfl⟩
          have hbt := bt_at d m h5
          have htk := take_snoc (lb d) m (by rw [lb_length]; exact h5)
          obtain ⟨y, hy⟩ : ∃ y, y = cf (lb d) m := ⟨_, rfl⟩
          rw [← hy] at hbt htk
          have hlx : (X ++ (lb d).take m).length = a := by rw [List.length_append, List.length_take, lb_length, Nat.min_eq_left hm, ha]
          have hnx := rowD_snoc (rows := R) (X ++ (lb d).take m) y hn
          rw [List.append_assoc, ← htk, hlx] at hnx
          have ha9 : a < R * 191 := by have := HR.out; omega
          have ha8 : a < 1000000 := by omega
          obtain ⟨q, hq⟩ : ∃ q, q = a / R := ⟨_, rfl⟩
          obtain ⟨r, hr⟩ : ∃ r, r = a % R := ⟨_, rfl⟩
          have hrR : r < R := by rw [hr]; exact Nat.mod_lt _ hR
          have hqC : q < 191 := by rw [hq]; exact Nat.div_lt_of_lt_mul ha9
          have hq1 : (a : Int).tdiv (R : Int) = (q : Int) := by rw [hq]; rfl
          have hq2 : (a : Int) / (R : Int) = (q : Int) := by rw [hq]; rfl
          have hr1 : (a : Int).tmod (R : Int) = (r : Int) := by rw [hr]; rfl
          have hr2 : (a : Int) % (R : Int) = (r : Int) := by rw [hr]; rfl
          rw [← hq, ← hr] at hnx
          rw [← ha]
          have hri : (r : Int) < (R : Int) := by omega
          have hqi : (q : Int) < 191 := by omega
          have ha1 : ((a : Nat) : Int) + 1 = ((X.length + (m + 1) : Nat) : Int) := by omega
          have HA1 := Lib.hid ha1
          have hln : (rowD R (X ++ (lb d).take m) n).length = 191 := rowD_length _ _ _
          by_cases h6 : r = n
          · rw [if_pos h6] at hnx
            have h6i : ((r : Int) == (n : Int)) = true := by rw [beq_iff_eq]; omega
            have hset := rowF_set HRO.out q (by rw [hln]; exact hqC) y
            rw [← hnx] at hset
            have f1 : wr.frozen? ⟨B, q, none⟩ = false := by
              obtain ⟨c', z0, z1, _, _, h9⟩ := HRO.out
              rw [u8l_length, hln] at z1
              exact (h9 q (Nat.lt_of_lt_of_le hqC z1)).2
            have c9 := HRO.out.cell q (by rw [hln]; exact hqC)
            obtain ⟨y0, hy0⟩ : ∃ y0, y0 = cf (rowD R (X ++ (lb d).take m) n) q := ⟨_, rfl⟩
            rw [← hy0] at c9
            have HSET := Lib.hid hset
            clear hy htk hlx hnx hq hr hset hln hy0 ha h6 ha9 ha1
            go_wp2_with fail
            go_region
            all_goals
              go_wp2_with fail
              go_roundw
              case rel => exact ⟨m + 1, by omega, by go_num, by rw [← HA1.out], HSET.out, (HSM.out.setCell (fun h9 => absurd (show B < w.heap.size from h9) (by rw [HB.out]; exact Nat.lt_irrefl _)) _).drew⟩
              case measure => simp [intOf]; omega
          · rw [if_neg h6] at hnx
            have h6i : ((r : Int) == (n : Int)) = false := by simp; omega
            have hset := HRO.out
            rw [← hnx] at hset
            have HSET := Lib.hid hset
            clear hy htk hlx hnx hq hr hset hln ha h6 ha9 ha1
            go_wp2_with fail
            go_roundw
            case rel => exact ⟨m + 1, by omega, by go_num, by rw [← HA1.out], HSET.out, HSM.out⟩
            case measure => simp [intOf]; omega
        · obtain rfl : m = d.size := by omega
          have h5i : ¬ (d.size : Int) < (d.size : Int) := by omega
          have htl : txt (D.take (k + 1)) = X ++ (lb d).take d.size := by rw [HTS.out, ← lb_length, List.take_length]
          have HTL := Lib.hid htl
          clear htl h5
          go_wp2_with fail
          go_roundw
          case rel => exact ⟨k + 1, by omega, by go_num, by rw [HTS.out, List.length_append, lb_length], by rw [HTL.out]; exact HRO.out, HSM.out⟩
          case measure => simp [intOf]; omega
    · obtain rfl : k = D.length := by omega
      have h1i : ¬ (D.length : Int) < (D.length : Int) := by omega
      rw [List.take_length] at hrw
      have hcv := hrw.str
      have d3 := hsm.cell C3.out (by simp)
      clear hrw hsm h1
      go_wp2_with fail
      go_ret
      exact ⟨rfl, HSM.out⟩
end Go.Proofs.YtdkjcocpkgojaaaDoor
