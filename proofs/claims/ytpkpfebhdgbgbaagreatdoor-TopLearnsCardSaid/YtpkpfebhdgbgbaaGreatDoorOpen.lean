/- Plain facts on worlds (what a call leaves as it was), used by all walks of this seat. No condition. Plain facts on slices: what a slice reads, and an append of whatever is read. No condition. A range over a function that runs to its end, whose iterator keeps a state in blocks of its own: one law for the loop, one shape for the iterator's contract. Condition: no round leaves the loop. The tables' versions: Newer. No condition. Plain facts on the sums of bytes: the words' sum, and its folding. No program. The frame of a law's row: where the call answers true and turns nothing that lay, the row's post holds. No condition. The opening of arguments: what value an array, a struct or a slice is whose reading is given. No condition. -/
import Derived.WalkKit
import Derived.WalkSpells
import Derived.WalkLawsBesides
import Derived.Lib.Hide
import Derived.Laws.BytesArg
import Derived.Maps.AppendAt
import Derived.Laws.AppendOwnNone
import Derived.RangeFuncNested
import Derived.RangeFuncBound
import Derived.RangeFuncCalls
import Derived.RangeFuncLeaves
import Derived.Test.YtpkpfebhdgbgbaaGreatDoorChecked
import Derived.Laws.BitsAllLaws
import Derived.IntWalk
import Derived.Test.YtpkpfebhdgbgbaaGreatDoorRows
import Derived.ProofKit
import Derived.OpenShut
import Derived.SizedLaws
import Derived.Lib.SmallJoins
namespace Go.Proofs.YtpkpfebhdgbgbaaGreatDoor
open Go.RowKit

/-- From w to w' no block but those of S has turned; new blocks may lie behind. -/
structure Same (S : List Nat) (w w' : World) : Prop where
  os : w'.os = w.os
  tape : w'.tape = w.tape
  output : w'.output = w.output
  size : w.heap.size ≤ w'.heap.size
  block : ∀ k, k < w.heap.size → k ∉ S → w'.heap[k]? = w.heap[k]?

theorem Same.refl (S : List Nat) (w : World) : Same S w w := ⟨rfl, rfl, rfl, Nat.le_refl _, fun _ _ _ => rfl⟩
theorem Same.trans {S T : List Nat} {a b c : World} (h : Same S a b) (k : Same T b c) (hT : ∀ x, x ∈ T → x < a.heap.size → x ∈ S) : Same S a c :=
  ⟨k.os.trans h.os, k.tape.trans h.tape, k.output.trans h.output, Nat.le_trans h.size k.size,
   fun i hi hS => (k.block i (Nat.lt_of_lt_of_le hi h.size) (fun hm => hS (hT i hm hi))).trans (h.block i hi hS)⟩
theorem Same.mono {S T : List Nat} {a b : World} (h : Same S a b) (hT : ∀ x, x ∈ S → x < a.heap.size → x ∈ T) : Same T a b :=
  ⟨h.os, h.tape, h.output, h.size, fun i hi hS => h.block i hi (fun hm => hS (hT i hm hi))⟩
theorem Same.trans_nil {S : List Nat} {a b c : World} (h : Same S a b) (k : Same [] b c) : Same S a c := h.trans k (fun x hx => by simp at hx)
theorem Same.drew {S : List Nat} {a b : World} (h : Same S a b) : Same S a b.drew := ⟨h.os, h.tape, h.output, h.size, h.block⟩
theorem Same.alloc {S : List Nat} {a b : World} (h : Same S a b) (o : Obj) : Same S a (b.alloc o) :=
  h.trans_nil ⟨rfl, rfl, rfl, by simp, fun k hk _ => Below.heap_alloc _ _ _ hk⟩
theorem Same.setCell {S : List Nat} {a b : World} (h : Same S a b) {p : Addr} (hp : p.block < a.heap.size → p.block ∈ S) (u : Value) : Same S a (b.setCell p u) :=
  h.trans (T := [p.block]) ⟨rfl, rfl, rfl, by simp [World.setCell], fun k _ hS => Below.heap_setCell _ _ _ _ (fun e => hS (by simp [e]))⟩
    (fun x hx hlt => by simp at hx; subst hx; exact hp hlt)
theorem Same.grown {S : List Nat} {a b c : World} {row : Option Nat} (h : Same S a b) (hg : b.grownBy c row) (hr : ∀ k, row = some k → k < a.heap.size → k ∈ S) : Same S a c :=
  h.trans (T := row.toList) ⟨hg.os, hg.tape, hg.output, hg.size, fun k hk hS => hg.block k hk (fun e => hS (by simp [← e]))⟩
    (fun x hx hlt => by simp at hx; exact hr x hx hlt)
theorem Same.below {S : List Nat} {a b : World} (h : Same S a b) {B : Nat} (hB : B ≤ a.heap.size) (hS : ∀ x, x ∈ S → B ≤ x) : Below B a b :=
  ⟨h.os, h.tape, h.output, h.size, fun k hk => h.block k (by omega) (fun hm => by have := hS k hm; omega)⟩
theorem Same.below_nil {a b : World} (h : Same [] a b) : Below a.heap.size a b := h.below (Nat.le_refl _) (fun x hx => by simp at hx)
theorem Same.of_below {a b : World} (h : Below a.heap.size a b) : Same [] a b := ⟨h.os, h.tape, h.output, h.size, fun k hk _ => h.block k hk⟩
theorem Same.heap {S : List Nat} {a b : World} (h : Same S a b) {k : Nat} {o : Obj} (ho : a.heap[k]? = some o) (hS : k ∉ S) : b.heap[k]? = some o :=
  (h.block k (Array.getElem?_eq_some_iff.1 ho).1 hS).trans ho
theorem Same.cell {S : List Nat} {a b : World} (h : Same S a b) {p : Addr} {v : Value} (hp : a.cell? p = some v) (hS : p.block ∉ S) : b.cell? p = some v :=
  (World.cell?_of_block (h.block p.block (World.block_lt_of_cell? a p hp) hS)).trans hp
theorem Same.frozen {S : List Nat} {a b : World} (h : Same S a b) {p : Addr} (hp : p.block < a.heap.size) (hS : p.block ∉ S) : b.frozen? p = a.frozen? p :=
  World.frozen?_of_block (h.block p.block hp hS)

theorem heap_lt {w : World} {k : Nat} {o : Obj} (h : w.heap[k]? = some o) : k < w.heap.size := (Array.getElem?_eq_some_iff.1 h).1
theorem cell_of {w : World} {b : Nat} {c : Array Value} {e : TypeId} {f : Nat × Nat} (h : w.heap[b]? = some (.cells c e f)) (i : Nat) : w.cell? ⟨b, i, none⟩ = c[i]? := by simp [World.cell?, h]
theorem free_of {w : World} {b : Nat} {c : Array Value} {e : TypeId} (h : w.heap[b]? = some (.cells c e (0, 0))) (i : Nat) : w.frozen? ⟨b, i, none⟩ = false := by simp [World.frozen?, h]
theorem set_same {w : World} {b i : Nat} {c : Array Value} {e : TypeId} {f : Nat × Nat} (h : w.heap[b]? = some (.cells c e f)) (u : Value) :
    (w.setCell ⟨b, i, none⟩ u).heap[b]? = some (.cells (c.setIfInBounds i u) e f) := by simp [World.setCell, Array.getElem?_modify, h]
theorem set_other {w : World} {b i k : Nat} (u : Value) (h : k ≠ b) : (w.setCell ⟨b, i, none⟩ u).heap[k]? = w.heap[k]? := Below.heap_setCell _ _ _ _ h
theorem size_set (w : World) (p : Addr) (u : Value) : (w.setCell p u).heap.size = w.heap.size := by simp [World.setCell]
theorem drew_heap (w : World) : w.drew.heap = w.heap := rfl

def u8s (l : List Nat) : List Value := l.map fun (n : Nat) => Value.int .u8 (n : Int)
def strOf (l : List Nat) : ByteArray := ⟨(l.map UInt8.ofNat).toArray⟩
theorem size_strOf (l : List Nat) : (strOf l).size = l.length := by simp [strOf, ByteArray.size]

/-- 'string(b)' of a row of bytes that the program has made itself. -/
theorem own_string {P : Program} {w : World} {base src dst e n : Nat} {v : Value} {l : List Nat} (hs : P.underlying src = some (.slice e)) (he : P.underlying e = some (.int .u8)) (hd : P.underlying dst = some .string)
    (h : w.ownsRow base e 1 v n (u8s l)) : (convert src dst v).run P w = .ok (.string (strOf l)) w := by
  have hlen : l.length = n := by simpa [u8s] using h.1
  rcases h.2 with ⟨rfl, h0⟩ | ⟨g, cap, cur, rfl, _, hg, hnc, hcm, hcs, ht⟩
  · have : l = [] := List.eq_nil_of_length_eq_zero (by omega)
    subst this
    exact run_convert_bytes_nil w src e hs he 0 0 dst hd
  · rw [run_convert_bytes_arg w src e hs he g 0 n cap (l.map fun (n : Nat) => (n : Int)) (by simp [hlen]) (fun i hi => ?_) dst hd]
    · simp [strOfNums, strOf, Function.comp_def]
    · rw [cell_of hg, Nat.zero_add, ← Array.getElem?_toList]
      have h1 := congrArg (fun z => z[i]?) ht
      simp only [List.getElem?_take] at h1
      rw [if_pos (by omega)] at h1
      rw [h1]
      simp [u8s, List.getD_eq_getElem?_getD, List.getElem?_map, List.getElem?_eq_getElem (show i < l.length by omega)]

theorem row_new (w : World) (c : Array Value) (e n : Nat) (h : c.size = n) (hm : n ≤ maxLen) :
    (w.alloc (.cells c e)).ownsRow 0 e 1 (.slice (some ⟨w.heap.size, 0, none⟩) n n) n c.toList :=
  ⟨by simp [h], .inr ⟨w.heap.size, n, c, rfl, Nat.zero_le _, heap_alloc_new w _, Nat.le_refl _, hm, by simp [h], by rw [List.take_of_length_le (by simp [h])]⟩⟩

/-- What a call answers, and that nothing that lay has turned. -/
def Ret (v : Value) (w : World) (e : Ending) (w' : World) : Prop := e = .returned v ∧ Same [] w w'
theorem Ret.mk {v : Value} {w w' : World} {e : Ending} (h : e = .returned v) (h' : Same [] w w') : Ret v w e w' := ⟨h, h'⟩

end Go.Proofs.YtpkpfebhdgbgbaaGreatDoor
namespace Go.Proofs.YtpkpfebhdgbgbaaGreatDoor
open Go.RowKit
set_option linter.unusedVariables false

/-- The slice value v has m elements (size cells each), which read ys. -/
def Reads (w : World) (size : Nat) (v : Value) (m : Nat) (ys : List Value) : Prop :=
  ys.length = m * size ∧ ((∃ a c, v = .slice (some a) m c ∧ a.spot = none ∧ m ≤ c ∧ ∀ j u, ys[j]? = some u → w.cell? (a.add j) = some u) ∨ (v = .slice none 0 0 ∧ m = 0))

theorem Reads.of_own {w : World} {base e size m : Nat} {v : Value} {ys : List Value} (h : w.ownsRow base e size v m ys) : Reads w size v m ys := by
  refine ⟨h.1, ?_⟩
  rcases h.2 with h0 | ⟨g, cap, cur, rfl, _, hg, hnc, r⟩
  · exact .inr h0
  · exact .inl ⟨⟨g, 0, none⟩, cap, rfl, rfl, hnc, h.cells rfl⟩

theorem addr_add (g o j : Nat) : (⟨g, o, none⟩ : Addr).add j = ⟨g, o + j, none⟩ := by unfold Addr.add; split <;> simp_all
theorem addr_add' {a : Addr} (h : a.spot = none) (j : Nat) : a.add j = ⟨a.block, a.off + j, none⟩ := by
  obtain ⟨g, o, s⟩ := a
  simp only at h; subst h
  exact addr_add g o j

/-- Which block a slice's elements lie in. -/
theorem Reads.same {A B : World} {size m : Nat} {v : Value} {ys : List Value} {S : List Nat} (h : Reads A size v m ys) (hs : Same S A B) (hb : ∀ k, v.ownBlock = some k → k ∉ S) : Reads B size v m ys := by
  refine ⟨h.1, ?_⟩
  rcases h.2 with ⟨a, c, rfl, ha, hmc, hc⟩ | h0
  · refine .inl ⟨a, c, rfl, ha, hmc, fun j u hj => ?_⟩
    have := hc j u hj
    rw [addr_add' ha] at this ⊢
    exact hs.cell this (hb a.block rfl)
  · exact .inr h0

section
variable {P : Program} {w : World}

theorem run_append_src (base : Nat) (t ty e : TypeId) (i : TypeInfo) (z : Value) (size bytes : Nat) (ht : P.underlying t = some (.slice e)) (hi : P.info? e = some i) (hz : i.zero = some z)
    (hsize : i.size = size) (hby : i.bytes = bytes) (hzs : z.cells.size = size) (hsz : 0 < size)
    (v : Value) (n : Nat) (xs : List Value) (hown : w.ownsRow base e size v n xs)
    (sv : Value) (m : Nat) (ys : List Value) (hr : Reads w size sv m ys) (h1 : ∀ u ∈ ys, u.oneCell' = true)
    (h63 : n + m ≤ maxLen) (hbytes : (n + m) * bytes ≤ 140737488355328) (hbase : base ≤ w.heap.size) :
    ∃ v' w', (Builtin.append_ #[t, t] ty #[v, sv]).run P w = .ok v' w' ∧ w'.ownsRow base e size v' (n + m) (xs ++ ys) ∧ w.grownBy w' v.ownBlock ∧ (v'.ownBlock = v.ownBlock ∨ v'.ownBlock = some w.heap.size) := by
  rcases hr.2 with ⟨a, c, rfl, _, _, hc⟩ | ⟨rfl, rfl⟩
  · obtain ⟨v', w', hrun, h2, h3, _, h5⟩ := run_append_own_at (P := P) w base t ty e i z size bytes ht hi hz hsize hby hzs hsz v n xs hown a m c ys hr.1 hc h1 h63 hbytes hbase
    exact ⟨v', w', hrun, h2, h3, h5⟩
  · have hy : ys = [] := List.eq_nil_of_length_eq_zero (by simpa using hr.1)
    subst hy
    refine ⟨v, w, run_append_owned_none (P := P) (w := w) base t ty e i size ht hi v n xs hown, by simpa using hown, ⟨rfl, rfl, rfl, Nat.le_refl _, fun _ _ _ => rfl⟩, .inl rfl⟩

theorem wpList_append_src {ops : Array Oper} {rest : List Oper} {o : Oper} {a : Act} {Q : Exit → Act → World → Prop} (hgd : o.guard = none) (s x : Operand) (t : TypeId)
    (ho : o.op = .call { callee := .builtin .append, args := #[s, x], argTypes := #[t, t] })
    (base : Nat) (e : TypeId) (i : TypeInfo) (z : Value) (size bytes : Nat) (ht : P.underlying t = some (.slice e)) (hi : P.info? e = some i) (hz : i.zero = some z)
    (hsize : i.size = size) (hby : i.bytes = bytes) (hzs : z.cells.size = size) (hsz : 0 < size)
    (v : Value) (n : Nat) (xs : List Value) (hs : a.eval s = v) (hown : w.ownsRow base e size v n xs)
    (sv : Value) (m : Nat) (ys : List Value) (hx : a.eval x = sv) (hr : Reads w size sv m ys) (h1 : ∀ u ∈ ys, u.oneCell' = true)
    (h63 : n + m ≤ maxLen) (hbytes : (n + m) * bytes ≤ 140737488355328) (hbase : base ≤ w.heap.size)
    (h : ∀ v' w', w'.ownsRow base e size v' (n + m) (xs ++ ys) → w.grownBy w' v.ownBlock → (v'.ownBlock = v.ownBlock ∨ v'.ownBlock = some w.heap.size) → wpList P ops Q rest (a.put o.dst v') w') :
    wpList P ops Q (o :: rest) a w := by
  refine wpList_plain hgd fun K hK => ?_
  obtain ⟨v', w', hrun, h2, h3, h5⟩ := run_append_src (P := P) base t o.type e i z size bytes ht hi hz hsize hby hzs hsz v n xs hown sv m ys hr h1 h63 hbytes hbase
  unfold Oper.wp execOp
  simp only [ho, resolve, invoke, builtin, Sem.run_bind, Sem.run_pure, Result.andThen_ok, List.map_toArray, List.map_cons, List.map_nil, hs, hx, hrun]
  exact hK _ _ (h v' w' h2 h3 h5)
end

/-- What is owned stays owned where other blocks turn. -/
theorem own_same {A B : World} {base e size n : Nat} {v : Value} {xs : List Value} {S : List Nat} (h : A.ownsRow base e size v n xs) (hs : Same S A B) (hb : ∀ k, v.ownBlock = some k → k ∉ S) : B.ownsRow base e size v n xs := by
  refine ⟨h.1, ?_⟩
  rcases h.2 with h0 | ⟨g, cap, cur, rfl, h5, h6, h7⟩
  · exact .inl h0
  · exact .inr ⟨g, cap, cur, rfl, h5, hs.heap h6 (hb g rfl), h7⟩
theorem own_lt {A : World} {base e size n : Nat} {v : Value} {xs : List Value} (h : A.ownsRow base e size v n xs) : ∀ k, v.ownBlock = some k → k < A.heap.size := fun k hk => (h.lt k hk).2
theorem Same.of_grown {a b : World} {row : Option Nat} (hg : a.grownBy b row) : Same row.toList a b := (Same.refl _ a).grown hg (fun k hk _ => by simp [hk])

theorem row_cells {w : World} {base e g n c : Nat} {xs : List Value} (h : w.ownsRow base e 1 (.slice (some ⟨g, 0, none⟩) n c) n xs) :
    ∃ cur : Array Value, w.heap[g]? = some (.cells cur e (0, 0)) ∧ cur.size = c ∧ cur.toList.take n = xs ∧ n ≤ c ∧ c ≤ maxLen := by
  rcases h.2 with ⟨h0, _⟩ | ⟨g', cap, cur, hv, _, hg, hnc, hcm, hcs, ht⟩
  · cases h0
  · cases hv
    exact ⟨cur, hg, by omega, by simpa using ht, hnc, hcm⟩
theorem row_mk {w : World} {e g n c : Nat} {cur : Array Value} (hg : w.heap[g]? = some (.cells cur e (0, 0))) (hs : cur.size = c) (hn : n ≤ c) (hc : c ≤ maxLen) :
    w.ownsRow 0 e 1 (.slice (some ⟨g, 0, none⟩) n c) n (cur.toList.take n) :=
  ⟨by simp; omega, .inr ⟨g, c, cur, rfl, Nat.zero_le _, hg, hn, hc, by omega, by simp⟩⟩

end Go.Proofs.YtpkpfebhdgbgbaaGreatDoor
namespace Go.Proofs.YtpkpfebhdgbgbaaGreatDoor
open Go.RowKit
set_option linter.unusedVariables false

def PutKeeps (own : List Nat) (W W' : World) : Prop := ∀ k, k ∈ own → W'.heap[k]? = W.heap[k]?

/-- The iterator gives just xs, in order; 'own' are the blocks that hold its state. -/
def SeqFull {α : Type} (P : Program) (gf : FuncId) (lb : Array Value) (encs : α → Array Value) (xs : List α) (own : List Nat) (w0 : World) : Prop :=
  ∀ (l : Nat) (J : List α → World → Prop) (W : World), Same [] w0 W → (∀ pre A B, J pre A → Same own A B → J pre B) →
    (∀ pre x W, J pre W → (pre ++ [x]) <+: xs → YieldAt Fence.wide 0 P l (encs x) W fun e W' => e = .returned (.bool true) ∧ J (pre ++ [x]) W' ∧ PutKeeps own W W') →
    J [] W → CallsIn Fence.wide 0 P gf (#[.func (.yield l) #[] #[]] ++ lb) W fun e W' => (∃ v, e = .returned v) ∧ J xs W'

def roundEnd {α : Type} (own : List Nat) (D : Nat) (I : List α → World → Prop) (pre : List α) (W : World) : Exit → Act → World → Prop
  | .normal, _, W' => I pre W' ∧ PutKeeps (D :: (D + 1) :: own) W W'
  | _, _, _ => False

theorem same_putObj (W : World) (l : Nat) (o : Obj) (S : List Nat) (hl : l ∈ S) : Same S W (W.putObj l o) :=
  ⟨rfl, rfl, rfl, by simp, fun k _ hk => World.putObj_heap_other (fun e => hk (e ▸ hl))⟩

theorem wp_rangeFull {α : Type} {P : Program} {g : Operand} {ps : Array Tmp} {assign body : Code} {Q : Exit → Act → World → Prop} {a : Act} {w : World}
    {D : Nat} (hDw : w.heap.size = D) {gf : Nat} {lb : Array Value} (hg : a.eval g = .func (.func gf) #[] lb) (eg : ∀ args w, (callFunc gf args).run P w = .ok (.enter gf args) w)
    {encs : α → Array Value} {xs : List α} {own : List Nat} (hseq : SeqFull P gf lb encs xs own w) (hps : ∀ x, (encs x).size = ps.size) (hown : ∀ k, k ∈ own → k < w.heap.size)
    (I : List α → World → Prop) (hI : ∀ pre A B, I pre A → Same (D :: (D + 1) :: own) A B → I pre B)
    (h0 : ∀ W, Same [] w W → D + 2 ≤ W.heap.size → I [] W)
    (hround : ∀ (l : Nat) (pre : List α) (x : α) (W : World), I pre W → (pre ++ [x]) <+: xs →
      assign.wpIn (Fence.wide.inRound l) 0 P (Exit.then (fun a' W' => W' = W ∧ ∀ W2, I pre W2 → D + 2 ≤ W2.heap.size → body.wpIn (Fence.wide.inRound l) 0 P (roundEnd own D I (pre ++ [x]) W2) a' W2) (fun _ _ _ => False))
        { tmps := (ps.zip (encs x)).foldl (fun t (p, v) => t.setIfInBounds p v) a.tmps, defers := [] } W)
    (hdone : ∀ W, I xs W → W.heap[D]? = some (.deferred (some [])) → Q .normal { a with defers := { target := .collected D, args := #[] } :: a.defers } W) :
    (Code.rangeFunc g ps assign body).wpIn Fence.wide 0 P Q a w := by
  subst hDw
  refine wpIn_rangeFunc ?_
  intro fn hfn
  rw [show Fence.wide.round = none from rfl]
  obtain ⟨rec, hrec⟩ : ∃ rec : LoopState → Option Code → Loop, rec = fun st pe => { state := st, pending := pe, fn, tmps := a.tmps, params := ps, assign, body, defers := w.heap.size } := ⟨_, rfl⟩
  obtain ⟨W1, hW1⟩ : ∃ W1, (w.alloc (.deferred (some []))).alloc (.loop (rec .ready none)) = W1 := ⟨_, rfl⟩
  have hL1 : W1.heap[w.heap.size + 1]? = some (.loop (rec .ready none)) := by
    rw [← hW1]; have := World.alloc_heap_new (w.alloc (.deferred (some []))) (.loop (rec .ready none)); rwa [World.size_alloc] at this
  have hK1 : W1.heap[w.heap.size]? = some (.deferred (some [])) := by
    rw [← hW1]; exact (Below.heap_alloc _ _ _ (by simp)).trans (World.alloc_heap_new w _)
  have hs1 : Same [] w W1 := by rw [← hW1]; exact ((Same.refl _ w).alloc _).alloc _
  have hz1 : w.heap.size + 2 ≤ W1.heap.size := by rw [← hW1]; simp
  refine ⟨w.heap.size + 1, [{ target := .collected w.heap.size, args := #[] }], W1, { target := .fn (.func gf) lb, args := #[.func (.yield (w.heap.size + 1)) #[] #[]] }, W1, gf,
    #[.func (.yield (w.heap.size + 1)) #[] #[]] ++ lb, W1, ?_, ?_, ?_, ?_, fun h => by simp [Fence.wide] at h, ?_⟩
  · rw [← hW1, hrec]; exact run_enterLoop_outer _ _ _ _ _
  · simp only [resolve, hg]
    simp [go_sem]
  · intro f' hf'; trivial
  · simp [invoke, go_sem, eg]
  · have key := hseq (w.heap.size + 1)
      (fun pre W => I pre W ∧ w.heap.size + 2 ≤ W.heap.size ∧ W.heap[w.heap.size + 1]? = some (.loop (rec .ready none)) ∧ W.heap[w.heap.size]? = some (.deferred (some [])))
      W1 hs1 (fun pre A B hj hs => ⟨hI pre A B hj.1 (hs.mono (fun x hx _ => by simp [hx])), Nat.le_trans hj.2.1 hs.size,
        hs.heap hj.2.2.1 (fun hm => by have := hown _ hm; omega), hs.heap hj.2.2.2 (fun hm => by have := hown _ hm; omega)⟩) ?_ ⟨h0 W1 hs1 hz1, hz1, hL1, hK1⟩
    · refine key.mono ?_
      rintro e W2 ⟨⟨v, rfl⟩, hi, hz, hl, hk⟩
      refine ⟨none, _, by have := run_endLoop (P := P) hl (by rw [hrec]; simp); rw [hrec] at this; exact this, hdone _ (hI _ _ _ hi (same_putObj _ _ _ _ (by simp))) ((World.putObj_heap_other (by omega)).trans hk)⟩
    · rintro pre x W ⟨hi, hz, hl, hk⟩ hpre
      have hlt : w.heap.size + 1 < W.heap.size := heap_lt hl
      have hy := run_yield (P := P) (args := encs x) hl (by rw [hrec]; exact hps x)
      rw [hrec] at hy
      refine ⟨fn, _, assign, body, hy, roundIn_of_wpIn trivial (wpIn_mono (hround _ pre x W hi hpre) ?_)⟩
      rintro e a1 Wa hp
      cases e with
      | ret => exact hp.elim
      | exit id => exact hp.elim
      | goto t => exact hp.elim
      | panic ch => exact hp.elim
      | outgrown => exact hp.elim
      | normal =>
      obtain ⟨rfl, hb⟩ := hp
      refine ⟨_, run_beginRound hl (by rw [hrec]), ?_⟩
      have hs2 : Same (w.heap.size :: (w.heap.size + 1) :: own) Wa (Wa.putObj (w.heap.size + 1) (.loop { rec .ready none with state := .busy })) := same_putObj _ _ _ _ (by simp)
      refine wpIn_mono (hb _ (hI _ _ _ hi hs2) (by simpa using hz)) ?_
      rintro e a3 W3 hp
      cases e with
      | normal =>
        obtain ⟨hi3, hkeep⟩ := hp
        have hl3 : W3.heap[w.heap.size + 1]? = some (.loop { rec .ready none with state := .busy }) := (hkeep _ (by simp)).trans (World.putObj_heap_same hlt)
        have hk3 : W3.heap[w.heap.size]? = some (.deferred (some [])) := ((hkeep _ (by simp)).trans (World.putObj_heap_other (by omega))).trans hk
        have hr := run_endRound (P := P) none hl3
        rw [hrec] at hr hl3
        have hlt3 := heap_lt hl3
        refine ⟨_, _, hr, rfl, ⟨hI _ _ _ hi3 (same_putObj _ _ _ _ (by simp)), by simp; omega, by rw [hrec]; exact World.putObj_heap_same hlt3, (World.putObj_heap_other (by omega)).trans hk3⟩, ?_⟩
        intro k hkm
        have hne : k ≠ w.heap.size + 1 := by have := hown k hkm; omega
        exact (World.putObj_heap_other hne).trans ((hkeep k (by simp [hkm])).trans (World.putObj_heap_other hne))
      | ret => exact hp.elim
      | exit id => exact hp.elim
      | goto t => exact hp.elim
      | panic ch => exact hp.elim
      | outgrown => exact hp.elim

end Go.Proofs.YtpkpfebhdgbgbaaGreatDoor
namespace Go.Proofs.YtpkpfebhdgbgbaaGreatDoor
open Go.RowKit
set_option linter.unusedSimpArgs false
set_option linter.unusedVariables false

theorem and31 (a : Int) : bits .and .i64 a 31 = a % 32 := by
  have h : (BitVec.ofInt 64 a).toNat = (a % 18446744073709551616).toNat := by simp [BitVec.toNat_ofInt]
  show IntKind.i64.wrap ((((BitVec.ofInt 64 a) &&& (BitVec.ofInt 64 31)).toNat : Nat) : Int) = _
  rw [BitVec.toNat_and, h, show (BitVec.ofInt 64 31).toNat = 2 ^ 5 - 1 from rfl, Nat.and_two_pow_sub_one_eq_mod, IntKind.wrap_i64]
  omega

theorem ret_bool {x y : Bool} (h : x = y) : Ending.returned (.bool x) = .returned (.bool y) := by rw [h]
theorem ret_int {k : IntKind} {x y : Int} (h : x = y) : Ending.returned (.int k x) = .returned (.int k y) := by rw [h]

/-- Does version b follow a? -/
def newB (a b : Int) : Bool := decide (0 < (a % 32 - b % 32) % 32 ∧ (a % 32 - b % 32) % 32 < 16)

end Go.Proofs.YtpkpfebhdgbgbaaGreatDoor
namespace Go.Proofs.YtpkpfebhdgbgbaaGreatDoor.Dg
open Go.RowKit
set_option linter.unusedSimpArgs false
set_option linter.unusedVariables false

def byteOf (s : ByteArray) (i : Nat) : Nat := (s.data.toList.getD i 0).toNat
theorem byteOf_lt (s : ByteArray) (i : Nat) : byteOf s i < 256 := UInt8.toNat_lt _
theorem byteOf_at (s : ByteArray) (i : Nat) (h : i < s.size) : (s[i]'h).toNat = byteOf s i := by
  unfold byteOf
  rw [List.getD_eq_getElem?_getD, Array.getElem?_toList, Array.getElem?_eq_getElem (by simpa using h)]
  rfl
def hiTo (s : ByteArray) : Nat → Nat
  | 0 => 0
  | i + 1 => hiTo s i + if i % 2 = 0 then byteOf s i else 0
def loTo (s : ByteArray) : Nat → Nat
  | 0 => 0
  | i + 1 => loTo s i + if i % 2 = 0 then 0 else byteOf s i
/-- The sum of the first i bytes, those at even places 256 times. -/
def tot (s : ByteArray) : Nat → Nat
  | 0 => 0
  | i + 1 => tot s i + if i % 2 = 0 then 256 * byteOf s i else byteOf s i
theorem hiTo_le (s : ByteArray) (i : Nat) : hiTo s i ≤ 255 * i := by
  induction i with
  | zero => simp [hiTo]
  | succ i ih => have := byteOf_lt s i; rw [hiTo]; split <;> omega
theorem loTo_le (s : ByteArray) (i : Nat) : loTo s i ≤ 255 * i := by
  induction i with
  | zero => simp [loTo]
  | succ i ih => have := byteOf_lt s i; rw [loTo]; split <;> omega
theorem tot_eq (s : ByteArray) (i : Nat) : hiTo s i * 256 + loTo s i = tot s i := by
  induction i with
  | zero => simp [hiTo, loTo, tot]
  | succ i ih =>
    by_cases h : i % 2 = 0
    · simp only [hiTo, loTo, tot, if_pos h, Nat.add_zero]; rw [← ih, Nat.add_mul, Nat.mul_comm 256, Nat.add_right_comm]
    · simp only [hiTo, loTo, tot, if_neg h, Nat.add_zero]; rw [← ih, Nat.add_assoc]
/-- A sum of words, folded into one word; of a sum that is not 0, not 0. -/
def cs (t : Nat) : Nat := if t = 0 then 0 else (t - 1) % 65535 + 1
def sumOf (s : ByteArray) : Int := 65535 - (cs (tot s s.size) : Nat)
theorem cs_small (n : Nat) (h : n ≤ 65535) : cs n = n := by
  unfold cs
  by_cases h0 : n = 0
  · rw [if_pos h0]; exact h0.symm
  · rw [if_neg h0]; omega
theorem cs_le (n : Nat) : cs n ≤ 65535 := by
  unfold cs
  by_cases h0 : n = 0
  · rw [if_pos h0]; omega
  · rw [if_neg h0]; omega
theorem cs_fold (n : Nat) (h : 65535 < n) : cs (n / 65536 + n % 65536) = cs n := by
  unfold cs
  rw [if_neg (by omega), if_neg (by omega)]
  omega
theorem cs_add (n m : Nat) (h1 : n ≤ 65535) : cs (n + m) = cs (cs n + m) := by rw [cs_small n h1]
theorem cs_cs_add (t m : Nat) : cs (cs t + m) = cs (t + m) := by
  unfold cs
  by_cases h : t = 0
  · simp [h]
  · rw [if_neg h, if_neg (by omega), if_neg (by omega)]
    omega
theorem cs_sub (n : Nat) (h1 : 65535 < n) (h2 : n ≤ 131070) : cs n = n - 65535 := by
  unfold cs; rw [if_neg (by omega)]; omega

theorem i64_and_nat (a b : Nat) (ha : a < 9223372036854775808) (hb : b < 9223372036854775808) : bits .and .i64 (a : Int) (b : Int) = ((a &&& b : Nat) : Int) := by
  have hx : a &&& b < 2 ^ 63 := Nat.and_lt_two_pow _ (by omega)
  show IntKind.i64.wrap ((BitVec.ofInt 64 (a : Int) &&& BitVec.ofInt 64 (b : Int)).toNat : Int) = _
  rw [BitVec.toNat_and, ofInt_u64 a (by omega), ofInt_u64 b (by omega)]
  exact IntWalk.i64_in _ (by omega)
theorem and_word (n : Nat) (h : n < 9223372036854775808) : bits .and .i64 (n : Int) 65535 = ((n % 65536 : Nat) : Int) := by
  have := i64_and_nat n 65535 h (by omega)
  rw [show ((65535 : Nat) : Int) = 65535 from rfl] at this
  rw [this, show (65535 : Nat) = 2 ^ 16 - 1 by rfl, Nat.and_two_pow_sub_one_eq_mod]

end Go.Proofs.YtpkpfebhdgbgbaaGreatDoor.Dg
namespace Go.Proofs.YtpkpfebhdgbgbaaGreatDoor
open Go.ChangeShapes Go.WideShapes Go.ChangeAt Go.RowKit
set_option linter.unusedVariables false

theorem law_own : ownKnob Tryz.prog.godebug = none := by kernel_rfl
theorem law_laid : laidOutB Tryz.prog = true := by kernel_rfl

theorem trodAll_below {H : Type} {enc : TypeId × Value → H} {P : Program} (hl : laidOutB P = true) {W W' : World} (hb : Below W.heap.size W W') :
    ∀ {ts : List TypeId} {vs : List Value} {ds : List (DataW H)} {p : List MemPlace}, (∀ t, t ∈ ts → P.readableRec t = true ∧ t < P.types.size) →
      DataW.TrodAll enc P W 0 (fun _ => true) true ts vs ds p → (∀ x, x ∈ p → x.block < W.heap.size) → DataW.TrodAll enc P W' 0 (fun b => decide (b < W.heap.size)) true ts vs ds p
  | [], _, _, _, _, h, _ => by
    obtain ⟨rfl, rfl, rfl⟩ := trodAll_nil h
    exact trodAll_mk0
  | t :: ts, _, _, _, hr, h, hlt => by
    obtain ⟨v, vs1, d, ds1, a, b, rfl, rfl, rfl, h1, h2⟩ := trodAll_cons h
    exact ⟨a, b, Below.trod hl (hr t (by simp)).1 (hr t (by simp)).2 h1 hb (fun x hx => hlt x (by simp [hx])), trodAll_below hl hb (fun t' ht' => hr t' (by simp [ht'])) h2 (fun x hx => hlt x (by simp [hx])), rfl⟩

/-- A LAW's POST, out of 'it answers true, and nothing that lay has turned'. -/
theorem law_post {H : Type} {enc : TypeId × Value → H} {f : Func} {s : ChangeSpec} {W W' : World} {args : Array Value} {ds gs : List (DataW H)} {before : List MemPlace}
    (hrec : ∀ t, t ∈ f.params.toList → Tryz.prog.readableRec t = true ∧ t < Tryz.prog.types.size) (hvars : s.vars = []) (hrt : f.resultTypes = #[4])
    (hfn : s.fn H (ds ++ gs) = { results := [.lit (.bool true)], args := ds }) (hW : DataW.Whole enc Tryz.prog f.params.toList s.vars false W args.toList ds gs before) (hB : Same [] W W') :
    s.post enc Tryz.prog f false true false false W args (.bool true) W' := by
  have hlt := hW.lt
  have hW2 := hW
  obtain ⟨p, q, hA, hV, rfl, hfz, hnd⟩ := hW2
  rw [hvars] at hV
  obtain ⟨rfl, rfl⟩ := trodVars_none hV
  refine ⟨ds, [], p ++ [], [], p, [], hW, ?_, ?_, ?_, (hB.below_nil).frame _, fun h => by cases h⟩
  · rw [hfn, hrt]
    exact trodAll_mk1 (shut_bool Tryz.underlying4 _)
  · rw [hfn]
    exact trodAll_below law_laid hB.below_nil hrec hA (fun x hx => hlt x (by simp [hx]))
  · rw [hfn, hvars]
    rfl

end Go.Proofs.YtpkpfebhdgbgbaaGreatDoor
namespace Go.Proofs.YtpkpfebhdgbgbaaGreatDoor
open Go.ChangeShapes Go.WideShapes Go.ChangeAt Go.RowKit
set_option linter.unusedVariables false

section
variable {H : Type} {enc : TypeId × Value → H} {P : Program} {w : World} {base : Nat} {spare : Nat → Bool} {held : Bool}

/-- An array by value whose elements have one cell each. -/
theorem open_arr1 {r : Reach} {b0 n : Nat} {t e : TypeId} {v : Value} {d : DataW H} {p : List MemPlace} (ht : P.underlying t = some (.array n e)) (hC : P.cellsOf t = n) (he : P.cellsOf e = 1)
    (hv : Value.okWide P w r b0 t v) (h : DataW.Trod enc P w base spare held t v d p) :
    ∃ vs : List Value, v = .agg vs.toArray ∧ vs.length = n ∧ ∀ (i : Nat) (u : Value), vs[i]? = some u → ∃ m y, DataW.trod enc P w base spare held m e [u] = some y := by
  simp only [Value.okWide, ht] at hv
  obtain ⟨cs, rfl, hsz, _⟩ := hv
  obtain ⟨fuel, hf⟩ := h
  obtain ⟨xs, m, _, _, _, hl, hx⟩ := DataW.trod_array ht hf
  refine ⟨cs.toList, rfl, by simp [hsz, hC], fun i u hu => ?_⟩
  have hi : i < cs.toList.length := (List.getElem?_eq_some_iff.1 hu).1
  have hin : i < n := by simp at hi; omega
  have := hx i hin
  rw [he] at this
  simp only [Value.cells, Nat.mul_one] at this
  have e1 : (cs.toList.drop i).take 1 = [u] := by
    rw [List.take_one, List.head?_drop, hu]; rfl
  rw [e1] at this
  rw [List.getElem?_eq_getElem (by omega)] at this
  exact ⟨m, _, this⟩

theorem arr1_int {k : IntKind} {e : TypeId} {u : Value} (he : P.underlying e = some (.int k)) (h : ∃ m y, DataW.trod enc P w base spare held m e [u] = some y) : ∃ n, u = .int k n ∧ (Lit.int k n).wf = true := by
  obtain ⟨m, y, hy⟩ := h
  obtain ⟨n, hn, _, hw⟩ := DataW.trod_int he hy
  exact ⟨n, by simpa using hn, hw⟩
end

theorem len2 {α : Type} {l : List α} (h : l.length = 2) : ∃ a b, l = [a, b] := by
  match l, h with
  | [a, b], _ => exact ⟨a, b, rfl⟩
theorem len3 {α : Type} {l : List α} (h : l.length = 3) : ∃ a b c, l = [a, b, c] := by
  match l, h with
  | [a, b, c], _ => exact ⟨a, b, c, rfl⟩
theorem len4 {α : Type} {l : List α} (h : l.length = 4) : ∃ a b c d, l = [a, b, c, d] := by
  match l, h with
  | [a, b, c, d], _ => exact ⟨a, b, c, d, rfl⟩

end Go.Proofs.YtpkpfebhdgbgbaaGreatDoor
