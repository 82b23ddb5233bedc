/- Plain facts on worlds (what a call leaves as it was), used by all walks of this seat. No condition. Plain facts on slices: what a slice reads, and an append of whatever is read. No condition. The tables' versions: Newer. No condition. Plain facts on the sums of bytes: the words' sum, and its folding. No program. The frame of a law's row: where the call answers true and turns nothing that lay, the row's post holds. No condition. The opening of arguments: what value an array, a struct or a slice is whose reading is given. No condition. The opening of a slice of packets as an argument. No condition. -/
import Derived.WalkKit
import Derived.WalkSpells
import Derived.WalkLawsBesides
import Derived.Lib.Hide
import Derived.Laws.BytesArg
import Derived.Maps.AppendAt
import Derived.Laws.AppendOwnNone
import Derived.Test.YtpkpfebhdgbgbaaGreatDoorChecked
import Derived.Laws.BitsAllLaws
import Derived.IntWalk
import Derived.Test.YtpkpfebhdgbgbaaGreatDoorRows
import Derived.ProofKit
import Derived.OpenShut
import Derived.SizedLaws
import Derived.Lib.SmallJoins
import Derived.Deep.Slices
namespace Go.Proofs.YtpkpfebhdgbgbaaGreatDoor
open Go.RowKit

/-- From w to w' no block but those of S has turned; new blocks may lie behind. -/
structure Same (S : List Nat) (w w' : World) : Prop where
  os : w'.os = w.os
  tape : w'.tape = w.tape
  output : w'.output = w.output
  size : w.heap.size ≤ w'.heap.size
  block : ∀ k, k < w.heap.size → k ∉ S → w'.heap[k]? = w.heap[k]?

theorem Same.refl (S : List Nat) (w : World) : Same S w w := ⟨rfl, rfl, rfl, Nat.le_refl _, fun _ _ _ => rfl⟩
theorem Same.trans {S T : List Nat} {a b c : World} (h : Same S a b) (k : Same T b c) (hT : ∀ x, x ∈ T → x < a.heap.size → x ∈ S) : Same S a c :=
  ⟨k.os.trans h.os, k.tape.trans h.tape, k.output.trans h.output, Nat.le_trans h.size k.size,
   fun i hi hS => (k.block i (Nat.lt_of_lt_of_le hi h.size) (fun hm => hS (hT i hm hi))).trans (h.block i hi hS)⟩
theorem Same.mono {S T : List Nat} {a b : World} (h : Same S a b) (hT : ∀ x, x ∈ S → x < a.heap.size → x ∈ T) : Same T a b :=
  ⟨h.os, h.tape, h.output, h.size, fun i hi hS => h.block i hi (fun hm => hS (hT i hm hi))⟩
theorem Same.trans_nil {S : List Nat} {a b c : World} (h : Same S a b) (k : Same [] b c) : Same S a c := h.trans k (fun x hx => by simp at hx)
theorem Same.drew {S : List Nat} {a b : World} (h : Same S a b) : Same S a b.drew := ⟨h.os, h.tape, h.output, h.size, h.block⟩
theorem Same.alloc {S : List Nat} {a b : World} (h : Same S a b) (o : Obj) : Same S a (b.alloc o) :=
  h.trans_nil ⟨rfl, rfl, rfl, by simp, fun k hk _ => Below.heap_alloc _ _ _ hk⟩
theorem Same.setCell {S : List Nat} {a b : World} (h : Same S a b) {p : Addr} (hp : p.block < a.heap.size → p.block ∈ S) (u : Value) : Same S a (b.setCell p u) :=
  h.trans (T := [p.block]) ⟨rfl, rfl, rfl, by simp [World.setCell], fun k _ hS => Below.heap_setCell _ _ _ _ (fun e => hS (by simp [e]))⟩
    (fun x hx hlt => by simp at hx; subst hx; exact hp hlt)
theorem Same.grown {S : List Nat} {a b c : World} {row : Option Nat} (h : Same S a b) (hg : b.grownBy c row) (hr : ∀ k, row = some k → k < a.heap.size → k ∈ S) : Same S a c :=
  h.trans (T := row.toList) ⟨hg.os, hg.tape, hg.output, hg.size, fun k hk hS => hg.block k hk (fun e => hS (by simp [← e]))⟩
    (fun x hx hlt => by simp at hx; exact hr x hx hlt)
theorem Same.below {S : List Nat} {a b : World} (h : Same S a b) {B : Nat} (hB : B ≤ a.heap.size) (hS : ∀ x, x ∈ S → B ≤ x) : Below B a b :=
  ⟨h.os, h.tape, h.output, h.size, fun k hk => h.block k (by omega) (fun hm => by have := hS k hm; omega)⟩
theorem Same.below_nil {a b : World} (h : Same [] a b) : Below a.heap.size a b := h.below (Nat.le_refl _) (fun x hx => by simp at hx)
theorem Same.of_below {a b : World} (h : Below a.heap.size a b) : Same [] a b := ⟨h.os, h.tape, h.output, h.size, fun k hk _ => h.block k hk⟩
theorem Same.heap {S : List Nat} {a b : World} (h : Same S a b) {k : Nat} {o : Obj} (ho : a.heap[k]? = some o) (hS : k ∉ S) : b.heap[k]? = some o :=
  (h.block k (Array.getElem?_eq_some_iff.1 ho).1 hS).trans ho
theorem Same.cell {S : List Nat} {a b : World} (h : Same S a b) {p : Addr} {v : Value} (hp : a.cell? p = some v) (hS : p.block ∉ S) : b.cell? p = some v :=
  (World.cell?_of_block (h.block p.block (World.block_lt_of_cell? a p hp) hS)).trans hp
theorem Same.frozen {S : List Nat} {a b : World} (h : Same S a b) {p : Addr} (hp : p.block < a.heap.size) (hS : p.block ∉ S) : b.frozen? p = a.frozen? p :=
  World.frozen?_of_block (h.block p.block hp hS)

theorem heap_lt {w : World} {k : Nat} {o : Obj} (h : w.heap[k]? = some o) : k < w.heap.size := (Array.getElem?_eq_some_iff.1 h).1
theorem cell_of {w : World} {b : Nat} {c : Array Value} {e : TypeId} {f : Nat × Nat} (h : w.heap[b]? = some (.cells c e f)) (i : Nat) : w.cell? ⟨b, i, none⟩ = c[i]? := by simp [World.cell?, h]
theorem free_of {w : World} {b : Nat} {c : Array Value} {e : TypeId} (h : w.heap[b]? = some (.cells c e (0, 0))) (i : Nat) : w.frozen? ⟨b, i, none⟩ = false := by simp [World.frozen?, h]
theorem set_same {w : World} {b i : Nat} {c : Array Value} {e : TypeId} {f : Nat × Nat} (h : w.heap[b]? = some (.cells c e f)) (u : Value) :
    (w.setCell ⟨b, i, none⟩ u).heap[b]? = some (.cells (c.setIfInBounds i u) e f) := by simp [World.setCell, Array.getElem?_modify, h]
theorem set_other {w : World} {b i k : Nat} (u : Value) (h : k ≠ b) : (w.setCell ⟨b, i, none⟩ u).heap[k]? = w.heap[k]? := Below.heap_setCell _ _ _ _ h
theorem size_set (w : World) (p : Addr) (u : Value) : (w.setCell p u).heap.size = w.heap.size := by simp [World.setCell]
theorem drew_heap (w : World) : w.drew.heap = w.heap := rfl

def u8s (l : List Nat) : List Value := l.map fun (n : Nat) => Value.int .u8 (n : Int)
def strOf (l : List Nat) : ByteArray := ⟨(l.map UInt8.ofNat).toArray⟩
theorem size_strOf (l : List Nat) : (strOf l).size = l.length := by simp [strOf, ByteArray.size]

/-- 'string(b)' of a row of bytes that the program has made itself. -/
theorem own_string {P : Program} {w : World} {base src dst e n : Nat} {v : Value} {l : List Nat} (hs : P.underlying src = some (.slice e)) (he : P.underlying e = some (.int .u8)) (hd : P.underlying dst = some .string)
    (h : w.ownsRow base e 1 v n (u8s l)) : (convert src dst v).run P w = .ok (.string (strOf l)) w := by
  have hlen : l.length = n := by simpa [u8s] using h.1
  rcases h.2 with ⟨rfl, h0⟩ | ⟨g, cap, cur, rfl, _, hg, hnc, hcm, hcs, ht⟩
  · have : l = [] := List.eq_nil_of_length_eq_zero (by omega)
    subst this
    exact run_convert_bytes_nil w src e hs he 0 0 dst hd
  · rw [run_convert_bytes_arg w src e hs he g 0 n cap (l.map fun (n : Nat) => (n : Int)) (by simp [hlen]) (fun i hi => ?_) dst hd]
    · simp [strOfNums, strOf, Function.comp_def]
    · rw [cell_of hg, Nat.zero_add, ← Array.getElem?_toList]
      have h1 := congrArg (fun z => z[i]?) ht
      simp only [List.getElem?_take] at h1
      rw [if_pos (by omega)] at h1
      rw [h1]
      simp [u8s, List.getD_eq_getElem?_getD, List.getElem?_map, List.getElem?_eq_getElem (show i < l.length by omega)]

theorem row_new (w : World) (c : Array Value) (e n : Nat) (h : c.size = n) (hm : n ≤ maxLen) :
    (w.alloc (.cells c e)).ownsRow 0 e 1 (.slice (some ⟨w.heap.size, 0, none⟩) n n) n c.toList :=
  ⟨by simp [h], .inr ⟨w.heap.size, n, c, rfl, Nat.zero_le _, heap_alloc_new w _, Nat.le_refl _, hm, by simp [h], by rw [List.take_of_length_le (by simp [h])]⟩⟩

/-- What a call answers, and that nothing that lay has turned. -/
def Ret (v : Value) (w : World) (e : Ending) (w' : World) : Prop := e = .returned v ∧ Same [] w w'
theorem Ret.mk {v : Value} {w w' : World} {e : Ending} (h : e = .returned v) (h' : Same [] w w') : Ret v w e w' := ⟨h, h'⟩

end Go.Proofs.YtpkpfebhdgbgbaaGreatDoor
namespace Go.Proofs.YtpkpfebhdgbgbaaGreatDoor
open Go.RowKit
set_option linter.unusedVariables false

/-- The slice value v has m elements (size cells each), which read ys. -/
def Reads (w : World) (size : Nat) (v : Value) (m : Nat) (ys : List Value) : Prop :=
  ys.length = m * size ∧ ((∃ a c, v = .slice (some a) m c ∧ a.spot = none ∧ m ≤ c ∧ ∀ j u, ys[j]? = some u → w.cell? (a.add j) = some u) ∨ (v = .slice none 0 0 ∧ m = 0))

theorem Reads.of_own {w : World} {base e size m : Nat} {v : Value} {ys : List Value} (h : w.ownsRow base e size v m ys) : Reads w size v m ys := by
  refine ⟨h.1, ?_⟩
  rcases h.2 with h0 | ⟨g, cap, cur, rfl, _, hg, hnc, r⟩
  · exact .inr h0
  · exact .inl ⟨⟨g, 0, none⟩, cap, rfl, rfl, hnc, h.cells rfl⟩

theorem addr_add (g o j : Nat) : (⟨g, o, none⟩ : Addr).add j = ⟨g, o + j, none⟩ := by unfold Addr.add; split <;> simp_all
theorem addr_add' {a : Addr} (h : a.spot = none) (j : Nat) : a.add j = ⟨a.block, a.off + j, none⟩ := by
  obtain ⟨g, o, s⟩ := a
  simp only at h; subst h
  exact addr_add g o j

/-- Which block a slice's elements lie in. -/
theorem Reads.same {A B : World} {size m : Nat} {v : Value} {ys : List Value} {S : List Nat} (h : Reads A size v m ys) (hs : Same S A B) (hb : ∀ k, v.ownBlock = some k → k ∉ S) : Reads B size v m ys := by
  refine ⟨h.1, ?_⟩
  rcases h.2 with ⟨a, c, rfl, ha, hmc, hc⟩ | h0
  · refine .inl ⟨a, c, rfl, ha, hmc, fun j u hj => ?_⟩
    have := hc j u hj
    rw [addr_add' ha] at this ⊢
    exact hs.cell this (hb a.block rfl)
  · exact .inr h0

section
variable {P : Program} {w : World}

theorem run_append_src (base : Nat) (t ty e : TypeId) (i : TypeInfo) (z : Value) (size bytes : Nat) (ht : P.underlying t = some (.slice e)) (hi : P.info? e = some i) (hz : i.zero = some z)
    (hsize : i.size = size) (hby : i.bytes = bytes) (hzs : z.cells.size = size) (hsz : 0 < size)
    (v : Value) (n : Nat) (xs : List Value) (hown : w.ownsRow base e size v n xs)
    (sv : Value) (m : Nat) (ys : List Value) (hr : Reads w size sv m ys) (h1 : ∀ u ∈ ys, u.oneCell' = true)
    (h63 : n + m ≤ maxLen) (hbytes : (n + m) * bytes ≤ 140737488355328) (hbase : base ≤ w.heap.size) :
    ∃ v' w', (Builtin.append_ #[t, t] ty #[v, sv]).run P w = .ok v' w' ∧ w'.ownsRow base e size v' (n + m) (xs ++ ys) ∧ w.grownBy w' v.ownBlock ∧ (v'.ownBlock = v.ownBlock ∨ v'.ownBlock = some w.heap.size) := by
  rcases hr.2 with ⟨a, c, rfl, _, _, hc⟩ | ⟨rfl, rfl⟩
  · obtain ⟨v', w', hrun, h2, h3, _, h5⟩ := run_append_own_at (P := P) w base t ty e i z size bytes ht hi hz hsize hby hzs hsz v n xs hown a m c ys hr.1 hc h1 h63 hbytes hbase
    exact ⟨v', w', hrun, h2, h3, h5⟩
  · have hy : ys = [] := List.eq_nil_of_length_eq_zero (by simpa using hr.1)
    subst hy
    refine ⟨v, w, run_append_owned_none (P := P) (w := w) base t ty e i size ht hi v n xs hown, by simpa using hown, ⟨rfl, rfl, rfl, Nat.le_refl _, fun _ _ _ => rfl⟩, .inl rfl⟩

theorem wpList_append_src {ops : Array Oper} {rest : List Oper} {o : Oper} {a : Act} {Q : Exit → Act → World → Prop} (hgd : o.guard = none) (s x : Operand) (t : TypeId)
    (ho : o.op = .call { callee := .builtin .append, args := #[s, x], argTypes := #[t, t] })
    (base : Nat) (e : TypeId) (i : TypeInfo) (z : Value) (size bytes : Nat) (ht : P.underlying t = some (.slice e)) (hi : P.info? e = some i) (hz : i.zero = some z)
    (hsize : i.size = size) (hby : i.bytes = bytes) (hzs : z.cells.size = size) (hsz : 0 < size)
    (v : Value) (n : Nat) (xs : List Value) (hs : a.eval s = v) (hown : w.ownsRow base e size v n xs)
    (sv : Value) (m : Nat) (ys : List Value) (hx : a.eval x = sv) (hr : Reads w size sv m ys) (h1 : ∀ u ∈ ys, u.oneCell' = true)
    (h63 : n + m ≤ maxLen) (hbytes : (n + m) * bytes ≤ 140737488355328) (hbase : base ≤ w.heap.size)
    (h : ∀ v' w', w'.ownsRow base e size v' (n + m) (xs ++ ys) → w.grownBy w' v.ownBlock → (v'.ownBlock = v.ownBlock ∨ v'.ownBlock = some w.heap.size) → wpList P ops Q rest (a.put o.dst v') w') :
    wpList P ops Q (o :: rest) a w := by
  refine wpList_plain hgd fun K hK => ?_
  obtain ⟨v', w', hrun, h2, h3, h5⟩ := run_append_src (P := P) base t o.type e i z size bytes ht hi hz hsize hby hzs hsz v n xs hown sv m ys hr h1 h63 hbytes hbase
  unfold Oper.wp execOp
  simp only [ho, resolve, invoke, builtin, Sem.run_bind, Sem.run_pure, Result.andThen_ok, List.map_toArray, List.map_cons, List.map_nil, hs, hx, hrun]
  exact hK _ _ (h v' w' h2 h3 h5)
end

/-- What is owned stays owned where other blocks turn. -/
theorem own_same {A B : World} {base e size n : Nat} {v : Value} {xs : List Value} {S : List Nat} (h : A.ownsRow base e size v n xs) (hs : Same S A B) (hb : ∀ k, v.ownBlock = some k → k ∉ S) : B.ownsRow base e size v n xs := by
  refine ⟨h.1, ?_⟩
  rcases h.2 with h0 | ⟨g, cap, cur, rfl, h5, h6, h7⟩
  · exact .inl h0
  · exact .inr ⟨g, cap, cur, rfl, h5, hs.heap h6 (hb g rfl), h7⟩
theorem own_lt {A : World} {base e size n : Nat} {v : Value} {xs : List Value} (h : A.ownsRow base e size v n xs) : ∀ k, v.ownBlock = some k → k < A.heap.size := fun k hk => (h.lt k hk).2
theorem Same.of_grown {a b : World} {row : Option Nat} (hg : a.grownBy b row) : Same row.toList a b := (Same.refl _ a).grown hg (fun k hk _ => by simp [hk])

theorem row_cells {w : World} {base e g n c : Nat} {xs : List Value} (h : w.ownsRow base e 1 (.slice (some ⟨g, 0, none⟩) n c) n xs) :
    ∃ cur : Array Value, w.heap[g]? = some (.cells cur e (0, 0)) ∧ cur.size = c ∧ cur.toList.take n = xs ∧ n ≤ c ∧ c ≤ maxLen := by
  rcases h.2 with ⟨h0, _⟩ | ⟨g', cap, cur, hv, _, hg, hnc, hcm, hcs, ht⟩
  · cases h0
  · cases hv
    exact ⟨cur, hg, by omega, by simpa using ht, hnc, hcm⟩
theorem row_mk {w : World} {e g n c : Nat} {cur : Array Value} (hg : w.heap[g]? = some (.cells cur e (0, 0))) (hs : cur.size = c) (hn : n ≤ c) (hc : c ≤ maxLen) :
    w.ownsRow 0 e 1 (.slice (some ⟨g, 0, none⟩) n c) n (cur.toList.take n) :=
  ⟨by simp; omega, .inr ⟨g, c, cur, rfl, Nat.zero_le _, hg, hn, hc, by omega, by simp⟩⟩

end Go.Proofs.YtpkpfebhdgbgbaaGreatDoor
namespace Go.Proofs.YtpkpfebhdgbgbaaGreatDoor
open Go.RowKit
set_option linter.unusedSimpArgs false
set_option linter.unusedVariables false

theorem and31 (a : Int) : bits .and .i64 a 31 = a % 32 := by
  have h : (BitVec.ofInt 64 a).toNat = (a % 18446744073709551616).toNat := by simp [BitVec.toNat_ofInt]
  show IntKind.i64.wrap ((((BitVec.ofInt 64 a) &&& (BitVec.ofInt 64 31)).toNat : Nat) : Int) = _
  rw [BitVec.toNat_and, h, show (BitVec.ofInt 64 31).toNat = 2 ^ 5 - 1 from rfl, Nat.and_two_pow_sub_one_eq_mod, IntKind.wrap_i64]
  omega

theorem ret_bool {x y : Bool} (h : x = y) : Ending.returned (.bool x) = .returned (.bool y) := by rw [h]
theorem ret_int {k : IntKind} {x y : Int} (h : x = y) : Ending.returned (.int k x) = .returned (.int k y) := by rw [h]

/-- Does version b follow a? -/
def newB (a b : Int) : Bool := decide (0 < (a % 32 - b % 32) % 32 ∧ (a % 32 - b % 32) % 32 < 16)

end Go.Proofs.YtpkpfebhdgbgbaaGreatDoor
namespace Go.Proofs.YtpkpfebhdgbgbaaGreatDoor.Dg
open Go.RowKit
set_option linter.unusedSimpArgs false
set_option linter.unusedVariables false

def byteOf (s : ByteArray) (i : Nat) : Nat := (s.data.toList.getD i 0).toNat
theorem byteOf_lt (s : ByteArray) (i : Nat) : byteOf s i < 256 := UInt8.toNat_lt _
theorem byteOf_at (s : ByteArray) (i : Nat) (h : i < s.size) : (s[i]'h).toNat = byteOf s i := by
  unfold byteOf
  rw [List.getD_eq_getElem?_getD, Array.getElem?_toList, Array.getElem?_eq_getElem (by simpa using h)]
  rfl
def hiTo (s : ByteArray) : Nat → Nat
  | 0 => 0
  | i + 1 => hiTo s i + if i % 2 = 0 then byteOf s i else 0
def loTo (s : ByteArray) : Nat → Nat
  | 0 => 0
  | i + 1 => loTo s i + if i % 2 = 0 then 0 else byteOf s i
/-- The sum of the first i bytes, those at even places 256 times. -/
def tot (s : ByteArray) : Nat → Nat
  | 0 => 0
  | i + 1 => tot s i + if i % 2 = 0 then 256 * byteOf s i else byteOf s i
theorem hiTo_le (s : ByteArray) (i : Nat) : hiTo s i ≤ 255 * i := by
  induction i with
  | zero => simp [hiTo]
  | succ i ih => have := byteOf_lt s i; rw [hiTo]; split <;> omega
theorem loTo_le (s : ByteArray) (i : Nat) : loTo s i ≤ 255 * i := by
  induction i with
  | zero => simp [loTo]
  | succ i ih => have := byteOf_lt s i; rw [loTo]; split <;> omega
theorem tot_eq (s : ByteArray) (i : Nat) : hiTo s i * 256 + loTo s i = tot s i := by
  induction i with
  | zero => simp [hiTo, loTo, tot]
  | succ i ih =>
    by_cases h : i % 2 = 0
    · simp only [hiTo, loTo, tot, if_pos h, Nat.add_zero]; rw [← ih, Nat.add_mul, Nat.mul_comm 256, Nat.add_right_comm]
    · simp only [hiTo, loTo, tot, if_neg h, Nat.add_zero]; rw [← ih, Nat.add_assoc]
/-- A sum of words, folded into one word; of a sum that is not 0, not 0. -/
def cs (t : Nat) : Nat := if t = 0 then 0 else (t - 1) % 65535 + 1
def sumOf (s : ByteArray) : Int := 65535 - (cs (tot s s.size) : Nat)
theorem cs_small (n : Nat) (h : n ≤ 65535) : cs n = n := by
  unfold cs
  by_cases h0 : n = 0
  · rw [if_pos h0]; exact h0.symm
  · rw [if_neg h0]; omega
theorem cs_le (n : Nat) : cs n ≤ 65535 := by
  unfold cs
  by_cases h0 : n = 0
  · rw [if_pos h0]; omega
  · rw [if_neg h0]; omega
theorem cs_fold (n : Nat) (h : 65535 < n) : cs (n / 65536 + n % 65536) = cs n := by
  unfold cs
  rw [if_neg (by omega), if_neg (by omega)]
  omega
theorem cs_add (n m : Nat) (h1 : n ≤ 65535) : cs (n + m) = cs (cs n + m) := by rw [cs_small n h1]
theorem cs_cs_add (t m : Nat) : cs (cs t + m) = cs (t + m) := by
  unfold cs
  by_cases h : t = 0
  · simp [h]
  · rw [if_neg h, if_neg (by omega), if_neg (by omega)]
    omega
theorem cs_sub (n : Nat) (h1 : 65535 < n) (h2 : n ≤ 131070) : cs n = n - 65535 := by
  unfold cs; rw [if_neg (by omega)]; omega

theorem i64_and_nat (a b : Nat) (ha : a < 9223372036854775808) (hb : b < 9223372036854775808) : bits .and .i64 (a : Int) (b : Int) = ((a &&& b : Nat) : Int) := by
  have hx : a &&& b < 2 ^ 63 := Nat.and_lt_two_pow _ (by omega)
  show IntKind.i64.wrap ((BitVec.ofInt 64 (a : Int) &&& BitVec.ofInt 64 (b : Int)).toNat : Int) = _
  rw [BitVec.toNat_and, ofInt_u64 a (by omega), ofInt_u64 b (by omega)]
  exact IntWalk.i64_in _ (by omega)
theorem and_word (n : Nat) (h : n < 9223372036854775808) : bits .and .i64 (n : Int) 65535 = ((n % 65536 : Nat) : Int) := by
  have := i64_and_nat n 65535 h (by omega)
  rw [show ((65535 : Nat) : Int) = 65535 from rfl] at this
  rw [this, show (65535 : Nat) = 2 ^ 16 - 1 by rfl, Nat.and_two_pow_sub_one_eq_mod]

end Go.Proofs.YtpkpfebhdgbgbaaGreatDoor.Dg
namespace Go.Proofs.YtpkpfebhdgbgbaaGreatDoor
open Go.ChangeShapes Go.WideShapes Go.ChangeAt Go.RowKit
set_option linter.unusedVariables false

theorem law_own : ownKnob Tryz.prog.godebug = none := by kernel_rfl
theorem law_laid : laidOutB Tryz.prog = true := by kernel_rfl

theorem trodAll_below {H : Type} {enc : TypeId × Value → H} {P : Program} (hl : laidOutB P = true) {W W' : World} (hb : Below W.heap.size W W') :
    ∀ {ts : List TypeId} {vs : List Value} {ds : List (DataW H)} {p : List MemPlace}, (∀ t, t ∈ ts → P.readableRec t = true ∧ t < P.types.size) →
      DataW.TrodAll enc P W 0 (fun _ => true) true ts vs ds p → (∀ x, x ∈ p → x.block < W.heap.size) → DataW.TrodAll enc P W' 0 (fun b => decide (b < W.heap.size)) true ts vs ds p
  | [], _, _, _, _, h, _ => by
    obtain ⟨rfl, rfl, rfl⟩ := trodAll_nil h
    exact trodAll_mk0
  | t :: ts, _, _, _, hr, h, hlt => by
    obtain ⟨v, vs1, d, ds1, a, b, rfl, rfl, rfl, h1, h2⟩ := trodAll_cons h
    exact ⟨a, b, Below.trod hl (hr t (by simp)).1 (hr t (by simp)).2 h1 hb (fun x hx => hlt x (by simp [hx])), trodAll_below hl hb (fun t' ht' => hr t' (by simp [ht'])) h2 (fun x hx => hlt x (by simp [hx])), rfl⟩

/-- A LAW's POST, out of 'it answers true, and nothing that lay has turned'. -/
theorem law_post {H : Type} {enc : TypeId × Value → H} {f : Func} {s : ChangeSpec} {W W' : World} {args : Array Value} {ds gs : List (DataW H)} {before : List MemPlace}
    (hrec : ∀ t, t ∈ f.params.toList → Tryz.prog.readableRec t = true ∧ t < Tryz.prog.types.size) (hvars : s.vars = []) (hrt : f.resultTypes = #[4])
    (hfn : s.fn H (ds ++ gs) = { results := [.lit (.bool true)], args := ds }) (hW : DataW.Whole enc Tryz.prog f.params.toList s.vars false W args.toList ds gs before) (hB : Same [] W W') :
    s.post enc Tryz.prog f false true false false W args (.bool true) W' := by
  have hlt := hW.lt
  have hW2 := hW
  obtain ⟨p, q, hA, hV, rfl, hfz, hnd⟩ := hW2
  rw [hvars] at hV
  obtain ⟨rfl, rfl⟩ := trodVars_none hV
  refine ⟨ds, [], p ++ [], [], p, [], hW, ?_, ?_, ?_, (hB.below_nil).frame _, fun h => by cases h⟩
  · rw [hfn, hrt]
    exact trodAll_mk1 (shut_bool Tryz.underlying4 _)
  · rw [hfn]
    exact trodAll_below law_laid hB.below_nil hrec hA (fun x hx => hlt x (by simp [hx]))
  · rw [hfn, hvars]
    rfl

end Go.Proofs.YtpkpfebhdgbgbaaGreatDoor
namespace Go.Proofs.YtpkpfebhdgbgbaaGreatDoor
open Go.ChangeShapes Go.WideShapes Go.ChangeAt Go.RowKit
set_option linter.unusedVariables false

section
variable {H : Type} {enc : TypeId × Value → H} {P : Program} {w : World} {base : Nat} {spare : Nat → Bool} {held : Bool}

/-- An array by value whose elements have one cell each. -/
theorem open_arr1 {r : Reach} {b0 n : Nat} {t e : TypeId} {v : Value} {d : DataW H} {p : List MemPlace} (ht : P.underlying t = some (.array n e)) (hC : P.cellsOf t = n) (he : P.cellsOf e = 1)
    (hv : Value.okWide P w r b0 t v) (h : DataW.Trod enc P w base spare held t v d p) :
    ∃ vs : List Value, v = .agg vs.toArray ∧ vs.length = n ∧ ∀ (i : Nat) (u : Value), vs[i]? = some u → ∃ m y, DataW.trod enc P w base spare held m e [u] = some y := by
  simp only [Value.okWide, ht] at hv
  obtain ⟨cs, rfl, hsz, _⟩ := hv
  obtain ⟨fuel, hf⟩ := h
  obtain ⟨xs, m, _, _, _, hl, hx⟩ := DataW.trod_array ht hf
  refine ⟨cs.toList, rfl, by simp [hsz, hC], fun i u hu => ?_⟩
  have hi : i < cs.toList.length := (List.getElem?_eq_some_iff.1 hu).1
  have hin : i < n := by simp at hi; omega
  have := hx i hin
  rw [he] at this
  simp only [Value.cells, Nat.mul_one] at this
  have e1 : (cs.toList.drop i).take 1 = [u] := by
    rw [List.take_one, List.head?_drop, hu]; rfl
  rw [e1] at this
  rw [List.getElem?_eq_getElem (by omega)] at this
  exact ⟨m, _, this⟩

theorem arr1_int {k : IntKind} {e : TypeId} {u : Value} (he : P.underlying e = some (.int k)) (h : ∃ m y, DataW.trod enc P w base spare held m e [u] = some y) : ∃ n, u = .int k n ∧ (Lit.int k n).wf = true := by
  obtain ⟨m, y, hy⟩ := h
  obtain ⟨n, hn, _, hw⟩ := DataW.trod_int he hy
  exact ⟨n, by simpa using hn, hw⟩
end

theorem len2 {α : Type} {l : List α} (h : l.length = 2) : ∃ a b, l = [a, b] := by
  match l, h with
  | [a, b], _ => exact ⟨a, b, rfl⟩
theorem len3 {α : Type} {l : List α} (h : l.length = 3) : ∃ a b c, l = [a, b, c] := by
  match l, h with
  | [a, b, c], _ => exact ⟨a, b, c, rfl⟩
theorem len4 {α : Type} {l : List α} (h : l.length = 4) : ∃ a b c d, l = [a, b, c, d] := by
  match l, h with
  | [a, b, c, d], _ => exact ⟨a, b, c, d, rfl⟩

end Go.Proofs.YtpkpfebhdgbgbaaGreatDoor
namespace Go.Proofs.YtpkpfebhdgbgbaaGreatDoor
open Go.ChangeShapes Go.WideShapes Go.ChangeAt Go.RowKit
set_option linter.unusedVariables false

theorem open_recs {H : Type} {enc : TypeId × Value → H} {P : Program} {w : World} {base : Nat} {spare : Nat → Bool} {held : Bool} {r : Reach} {b0 size : Nat} {t e : TypeId} {v : Value} {d : DataW H} {p : List MemPlace}
    (ht : P.underlying t = some (.slice e)) (hC : P.cellsOf e = size) (hsz : 0 < size) (hv : Value.okWide P w r b0 t v) (h : DataW.Trod enc P w base spare held t v d p) :
    ∃ (ad : Option Addr) (n c : Nat), v = .slice ad n c ∧ n ≤ c ∧ c ≤ maxLen ∧ ∀ i, i < n → ∃ (a : Addr) (cs : List Value), ad = some a ∧ a.spot = none ∧ cs.length = size ∧
      (∃ m y, DataW.trod enc P w base spare held m e cs = some y) ∧ ∀ j, j < size → w.cell? ⟨a.block, a.off + i * size + j, none⟩ = cs[j]? := by
  obtain ⟨a0, n, c, rfl⟩ := okWide_slice ht hv
  obtain ⟨fuel, hf⟩ := h
  rcases Go.Deep.open_slice ht hf with ⟨h0, _⟩ | ⟨a, len, cap, m, f, D, Pl, h0, _, hl, hm, hmm, _, hx⟩
  · simp [Value.cells] at h0
    obtain ⟨rfl, rfl, rfl⟩ := h0
    exact ⟨none, 0, 0, rfl, Nat.le_refl _, Nat.zero_le _, fun i hi => absurd hi (Nat.not_lt_zero _)⟩
  · simp [Value.cells] at h0
    obtain ⟨rfl, rfl, rfl⟩ := h0
    refine ⟨some a, n, c, rfl, hl, hm, fun i hi => ?_⟩
    have him : i < m := by rw [hmm]; split <;> omega
    obtain ⟨cs, h1, h2⟩ := hx i him
    rw [hC] at h1
    obtain ⟨_, hlen, hcell⟩ := World.cells?_some h1
    have hsp : a.spot = none := by
      have h0m : 0 < m := by omega
      obtain ⟨cs0, h10, _⟩ := hx 0 h0m
      rw [hC] at h10
      obtain ⟨_, hlen0, hcell0⟩ := World.cells?_some h10
      have h3 := hcell0 0 hsz
      rw [List.getElem?_eq_getElem (by omega)] at h3
      have h4 := World.cell?_spot h3
      simpa [Addr.add] using h4
    refine ⟨a, cs, rfl, hsp, hlen, ⟨_, _, h2⟩, fun j hj => ?_⟩
    have h3 := hcell j hj
    rw [addr_add' hsp, addr_add' rfl] at h3
    exact h3

/-- A row of five one-cell fields. -/
theorem rec5 {H : Type} {enc : TypeId × Value → H} {P : Program} {w : World} {base : Nat} {spare : Nat → Bool} {held : Bool} {t : TypeId} {f0 f1 f2 f3 f4 : Field} {m : Nat} {x0 x1 x2 x3 x4 : Value} {y : DataW H × List MemPlace}
    (hs : P.underlying t = some (.struct #[f0, f1, f2, f3, f4])) (hone : Go.Deep.oneCellFields P #[f0, f1, f2, f3, f4] = true) (h : DataW.trod enc P w base spare held m t [x0, x1, x2, x3, x4] = some y) :
    ∃ n y0 y1 y2 y3 y4, DataW.trod enc P w base spare held n f0.type [x0] = some y0 ∧ DataW.trod enc P w base spare held n f1.type [x1] = some y1 ∧ DataW.trod enc P w base spare held n f2.type [x2] = some y2 ∧ DataW.trod enc P w base spare held n f3.type [x3] = some y3 ∧ DataW.trod enc P w base spare held n f4.type [x4] = some y4 := by
  obtain ⟨xs, n, _, _, _, hlen, hf⟩ := DataW.trod_struct hs h
  match xs, hlen with
  | [y0, y1, y2, y3, y4], _ =>
    have h0 := hf 0 f0 rfl; have h1 := hf 1 f1 rfl; have h2 := hf 2 f2 rfl; have h3 := hf 3 f3 rfl; have h4 := hf 4 f4 rfl
    obtain ⟨o0, k0⟩ := Go.Deep.hone_of hone 0 f0 rfl
    obtain ⟨o1, k1⟩ := Go.Deep.hone_of hone 1 f1 rfl
    obtain ⟨o2, k2⟩ := Go.Deep.hone_of hone 2 f2 rfl
    obtain ⟨o3, k3⟩ := Go.Deep.hone_of hone 3 f3 rfl
    obtain ⟨o4, k4⟩ := Go.Deep.hone_of hone 4 f4 rfl
    exact ⟨n, y0, y1, y2, y3, y4, by simpa [o0, k0] using h0, by simpa [o1, k1] using h1, by simpa [o2, k2] using h2, by simpa [o3, k3] using h3, by simpa [o4, k4] using h4⟩

theorem choose_list {α : Type} {n : Nat} {p : Nat → α → Prop} (h : ∀ i, i < n → ∃ x, p i x) : ∃ l : List α, l.length = n ∧ ∀ (i : Nat) (hi : i < l.length), p i l[i] := by
  induction n with
  | zero => exact ⟨[], rfl, fun i hi => absurd hi (Nat.not_lt_zero _)⟩
  | succ n ih =>
    obtain ⟨l, hl, hp⟩ := ih (fun i hi => h i (by omega))
    obtain ⟨x, hx⟩ := h n (by omega)
    refine ⟨l ++ [x], by simp [hl], fun i hi => ?_⟩
    by_cases h1 : i < l.length
    · rw [List.getElem_append_left h1]; exact hp i h1
    · have h2 : i = l.length := by simp at hi; omega
      subst h2
      simp only [List.getElem_concat_length]; rw [hl]; exact hx

/-- A packet. -/
structure PkD where
  pid : Int
  st : Bool
  c : Int
  bad : Bool
  body : ByteArray
/-- A slice of packets. -/
def PktsAt (w : World) (v : Value) (ps : List PkD) : Prop :=
  ∃ ad c, v = .slice ad ps.length c ∧ ps.length ≤ c ∧ c ≤ maxLen ∧ ∀ (i : Nat) (h : i < ps.length), ∃ a : Addr, ad = some a ∧ a.spot = none ∧
    w.cell? ⟨a.block, a.off + i * 5, none⟩ = some (.int .i64 ps[i].pid) ∧ w.cell? ⟨a.block, a.off + i * 5 + 1, none⟩ = some (.bool ps[i].st) ∧ w.cell? ⟨a.block, a.off + i * 5 + 2, none⟩ = some (.int .i64 ps[i].c) ∧
    w.cell? ⟨a.block, a.off + i * 5 + 3, none⟩ = some (.bool ps[i].bad) ∧ w.cell? ⟨a.block, a.off + i * 5 + 4, none⟩ = some (.string ps[i].body)
theorem len5 {α : Type} {l : List α} (h : l.length = 5) : ∃ a b c d e, l = [a, b, c, d, e] := by
  match l, h with
  | [a, b, c, d, e], _ => exact ⟨a, b, c, d, e, rfl⟩

set_option maxRecDepth 100000 in
theorem open_pkts {H : Type} {enc : TypeId × Value → H} {w : World} {base : Nat} {spare : Nat → Bool} {held : Bool} {r : Reach} {b0 : Nat} {v : Value} {d : DataW H} {p : List MemPlace}
    (hv : Value.okWide Tryz.prog w r b0 77 v) (h : DataW.Trod enc Tryz.prog w base spare held 77 v d p) :
    ∃ ps : List PkD, PktsAt w v ps := by
  obtain ⟨ad, n, c, rfl, hl, hm, hx⟩ := open_recs Tryz.underlying77 (size := 5) (by kernel_rfl) (by decide) hv h
  have hop : ∀ i, i < n → ∃ o : PkD, ∃ a : Addr, ad = some a ∧ a.spot = none ∧
      w.cell? ⟨a.block, a.off + i * 5, none⟩ = some (.int .i64 o.pid) ∧ w.cell? ⟨a.block, a.off + i * 5 + 1, none⟩ = some (.bool o.st) ∧
      w.cell? ⟨a.block, a.off + i * 5 + 2, none⟩ = some (.int .i64 o.c) ∧ w.cell? ⟨a.block, a.off + i * 5 + 3, none⟩ = some (.bool o.bad) ∧ w.cell? ⟨a.block, a.off + i * 5 + 4, none⟩ = some (.string o.body) := by
    intro i hi
    obtain ⟨a, cs, h1, h2, h3, ⟨m, y, h4⟩, h5⟩ := hx i hi
    obtain ⟨x0, x1, x2, x3, x4, rfl⟩ := len5 h3
    obtain ⟨k, y0, y1, y2, y3, y4, g0, g1, g2, g3, g4⟩ := rec5 Tryz.underlying85 (by kernel_rfl) h4
    obtain ⟨b0, e0, _, _⟩ := DataW.trod_int Tryz.underlying3 g0
    obtain ⟨b1, e1, _⟩ := DataW.trod_bool Tryz.underlying4 g1
    obtain ⟨b2, e2, _, _⟩ := DataW.trod_int Tryz.underlying3 g2
    obtain ⟨b3, e3, _⟩ := DataW.trod_bool Tryz.underlying4 g3
    obtain ⟨b4, e4, _, _⟩ := DataW.trod_string Tryz.underlying9 g4
    simp at e0 e1 e2 e3 e4
    subst e0 e1 e2 e3 e4
    exact ⟨⟨b0, b1, b2, b3, b4⟩, a, h1, h2, h5 0 (by decide), h5 1 (by decide), h5 2 (by decide), h5 3 (by decide), h5 4 (by decide)⟩
  obtain ⟨ps, rfl, hps⟩ := choose_list hop
  exact ⟨ps, ad, c, rfl, hl, hm, hps⟩

end Go.Proofs.YtpkpfebhdgbgbaaGreatDoor
