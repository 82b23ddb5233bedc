/- Plain facts on slices: what a slice reads, and an append of whatever is read. No condition. -/
import Derived.Test.YtabglpkoklajlaaBase
import Derived.Maps.AppendAt
import Derived.Laws.AppendOwnNone
namespace Go.Proofs.Ytabglpkoklajlaa
open Go.RowKit
set_option linter.unusedVariables false

/-- The slice value v has m elements (size cells each), which read ys. -/
def Reads (w : World) (size : Nat) (v : Value) (m : Nat) (ys : List Value) : Prop :=
  ys.length = m * size ∧ ((∃ a c, v = .slice (some a) m c ∧ a.spot = none ∧ m ≤ c ∧ ∀ j u, ys[j]? = some u → w.cell? (a.add j) = some u) ∨ (v = .slice none 0 0 ∧ m = 0))

theorem Reads.of_own {w : World} {base e size m : Nat} {v : Value} {ys : List Value} (h : w.ownsRow base e size v m ys) : Reads w size v m ys := by
  refine ⟨h.1, ?_⟩
  rcases h.2 with h0 | ⟨g, cap, cur, rfl, _, hg, hnc, r⟩
  · exact .inr h0
  · exact .inl ⟨⟨g, 0, none⟩, cap, rfl, rfl, hnc, h.cells rfl⟩

theorem addr_add (g o j : Nat) : (⟨g, o, none⟩ : Addr).add j = ⟨g, o + j, none⟩ := by unfold Addr.add; split <;> simp_all
theorem addr_add' {a : Addr} (h : a.spot = none) (j : Nat) : a.add j = ⟨a.block, a.off + j, none⟩ := by
  obtain ⟨g, o, s⟩ := a
  simp only at h; subst h
  exact addr_add g o j

/-- Which block a slice's elements lie in. -/
theorem Reads.same {A B : World} {size m : Nat} {v : Value} {ys : List Value} {S : List Nat} (h : Reads A size v m ys) (hs : Same S A B) (hb : ∀ k, v.ownBlock = some k → k ∉ S) : Reads B size v m ys := by
  refine ⟨h.1, ?_⟩
  rcases h.2 with ⟨a, c, rfl, ha, hmc, hc⟩ | h0
  · refine .inl ⟨a, c, rfl, ha, hmc, fun j u hj => ?_⟩
    have := hc j u hj
    rw [addr_add' ha] at this ⊢
    exact hs.cell this (hb a.block rfl)
  · exact .inr h0

section
variable {P : Program} {w : World}

theorem run_append_src (base : Nat) (t ty e : TypeId) (i : TypeInfo) (z : Value) (size bytes : Nat) (ht : P.underlying t = some (.slice e)) (hi : P.info? e = some i) (hz : i.zero = some z)
    (hsize : i.size = size) (hby : i.bytes = bytes) (hzs : z.cells.size = size) (hsz : 0 < size)
    (v : Value) (n : Nat) (xs : List Value) (hown : w.ownsRow base e size v n xs)
    (sv : Value) (m : Nat) (ys : List Value) (hr : Reads w size sv m ys) (h1 : ∀ u ∈ ys, u.oneCell' = true)
    (h63 : n + m ≤ maxLen) (hbytes : (n + m) * bytes ≤ 140737488355328) (hbase : base ≤ w.heap.size) :
    ∃ v' w', (Builtin.append_ #[t, t] ty #[v, sv]).run P w = .ok v' w' ∧ w'.ownsRow base e size v' (n + m) (xs ++ ys) ∧ w.grownBy w' v.ownBlock ∧ (v'.ownBlock = v.ownBlock ∨ v'.ownBlock = some w.heap.size) := by
  rcases hr.2 with ⟨a, c, rfl, _, _, hc⟩ | ⟨rfl, rfl⟩
  · obtain ⟨v', w', hrun, h2, h3, _, h5⟩ := run_append_own_at (P := P) w base t ty e i z size bytes ht hi hz hsize hby hzs hsz v n xs hown a m c ys hr.1 hc h1 h63 hbytes hbase
    exact ⟨v', w', hrun, h2, h3, h5⟩
  · have hy : ys = [] := List.eq_nil_of_length_eq_zero (by simpa using hr.1)
    subst hy
    refine ⟨v, w, run_append_owned_none (P := P) (w := w) base t ty e i size ht hi v n xs hown, by simpa using hown, ⟨rfl, rfl, rfl, Nat.le_refl _, fun _ _ _ => rfl⟩, .inl rfl⟩

theorem wpList_append_src {ops : Array Oper} {rest : List Oper} {o : Oper} {a : Act} {Q : Exit → Act → World → Prop} (hgd : o.guard = none) (s x : Operand) (t : TypeId)
    (ho : o.op = .call { callee := .builtin .append, args := #[s, x], argTypes := #[t, t] })
    (base : Nat) (e : TypeId) (i : TypeInfo) (z : Value) (size bytes : Nat) (ht : P.underlying t = some (.slice e)) (hi : P.info? e = some i) (hz : i.zero = some z)
    (hsize : i.size = size) (hby : i.bytes = bytes) (hzs : z.cells.size = size) (hsz : 0 < size)
    (v : Value) (n : Nat) (xs : List Value) (hs : a.eval s = v) (hown : w.ownsRow base e size v n xs)
    (sv : Value) (m : Nat) (ys : List Value) (hx : a.eval x = sv) (hr : Reads w size sv m ys) (h1 : ∀ u ∈ ys, u.oneCell' = true)
    (h63 : n + m ≤ maxLen) (hbytes : (n + m) * bytes ≤ 140737488355328) (hbase : base ≤ w.heap.size)
    (h : ∀ v' w', w'.ownsRow base e size v' (n + m) (xs ++ ys) → w.grownBy w' v.ownBlock → (v'.ownBlock = v.ownBlock ∨ v'.ownBlock = some w.heap.size) → wpList P ops Q rest (a.put o.dst v') w') :
    wpList P ops Q (o :: rest) a w := by
  refine wpList_plain hgd fun K hK => ?_
  obtain ⟨v', w', hrun, h2, h3, h5⟩ := run_append_src (P := P) base t o.type e i z size bytes ht hi hz hsize hby hzs hsz v n xs hown sv m ys hr h1 h63 hbytes hbase
  unfold Oper.wp execOp
  simp only [ho, resolve, invoke, builtin, Sem.run_bind, Sem.run_pure, Result.andThen_ok, List.map_toArray, List.map_cons, List.map_nil, hs, hx, hrun]
  exact hK _ _ (h v' w' h2 h3 h5)
end

/-- What is owned stays owned where other blocks turn. -/
theorem own_same {A B : World} {base e size n : Nat} {v : Value} {xs : List Value} {S : List Nat} (h : A.ownsRow base e size v n xs) (hs : Same S A B) (hb : ∀ k, v.ownBlock = some k → k ∉ S) : B.ownsRow base e size v n xs := by
  refine ⟨h.1, ?_⟩
  rcases h.2 with h0 | ⟨g, cap, cur, rfl, h5, h6, h7⟩
  · exact .inl h0
  · exact .inr ⟨g, cap, cur, rfl, h5, hs.heap h6 (hb g rfl), h7⟩
theorem own_lt {A : World} {base e size n : Nat} {v : Value} {xs : List Value} (h : A.ownsRow base e size v n xs) : ∀ k, v.ownBlock = some k → k < A.heap.size := fun k hk => (h.lt k hk).2
theorem Same.of_grown {a b : World} {row : Option Nat} (hg : a.grownBy b row) : Same row.toList a b := (Same.refl _ a).grown hg (fun k hk _ => by simp [hk])

theorem row_cells {w : World} {base e g n c : Nat} {xs : List Value} (h : w.ownsRow base e 1 (.slice (some ⟨g, 0, none⟩) n c) n xs) :
    ∃ cur : Array Value, w.heap[g]? = some (.cells cur e (0, 0)) ∧ cur.size = c ∧ cur.toList.take n = xs ∧ n ≤ c ∧ c ≤ maxLen := by
  rcases h.2 with ⟨h0, _⟩ | ⟨g', cap, cur, hv, _, hg, hnc, hcm, hcs, ht⟩
  · cases h0
  · cases hv
    exact ⟨cur, hg, by omega, by simpa using ht, hnc, hcm⟩
theorem row_mk {w : World} {e g n c : Nat} {cur : Array Value} (hg : w.heap[g]? = some (.cells cur e (0, 0))) (hs : cur.size = c) (hn : n ≤ c) (hc : c ≤ maxLen) :
    w.ownsRow 0 e 1 (.slice (some ⟨g, 0, none⟩) n c) n (cur.toList.take n) :=
  ⟨by simp; omega, .inr ⟨g, c, cur, rfl, Nat.zero_le _, hg, hn, hc, by omega, by simp⟩⟩

end Go.Proofs.Ytabglpkoklajlaa
