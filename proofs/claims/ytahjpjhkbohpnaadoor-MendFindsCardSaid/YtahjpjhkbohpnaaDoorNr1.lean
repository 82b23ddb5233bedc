/- Slices of numbers that came in: their front pieces, and an append of one. No condition. -/
import Derived.Test.YtahjpjhkbohpnaaDoorMa1
namespace Go.Proofs.YtahjpjhkbohpnaaDoor
open Go.RowKit
set_option linter.unusedSimpArgs false
set_option linter.unusedVariables false

/-- A slice of numbers, nil or with an address. -/
def NumsR (w : World) (v : Value) (xs : List Int) : Prop := NumsAt w v xs ∧ (v = .slice none 0 0 ∨ ∃ a c, v = .slice (some a) xs.length c ∧ ∀ (j : Nat) (u : Value), (il xs)[j]? = some u → w.cell? (a.add j) = some u)
theorem il_length (xs : List Int) : (il xs).length = xs.length := by simp [il]
theorem nums_front {w : World} {v : Value} {xs : List Int} (h : NumsR w v xs) {n : Nat} (hn : n ≤ xs.length) : ∃ ad c, v = .slice ad xs.length c ∧
    (∀ W, (Instr.sliceAt 22 v none (some (.int .i64 (n : Int))) none).run Tryd.prog W = .ok (sliced ad 0 n c 1) W) ∧ ∀ W, Same [] w W → NumsAt W (sliced ad 0 n c 1) (xs.take n) := by
  obtain ⟨⟨ad, c, rfl, h1, h2, h3⟩, h4⟩ := h
  have hl : (xs.take n).length = n := by rw [List.length_take]; omega
  refine ⟨ad, c, rfl, fun W => ?_, fun W hs => ?_⟩
  · have hs : (sizeOf (Tryd.prog.elem 22)).run Tryd.prog W = .ok 1 W := by kernel_rfl
    rw [run_sliceAt_slice _ _ _ _ _ _ (by kernel_rfl), run_slice_h _ _ _ _ _ (by kernel_rfl) _ _ (by omega) (by omega), hs, Int.toNat_natCast]
    rfl
  · unfold sliced
    rw [Nat.sub_zero, Nat.sub_zero]
    refine ⟨_, c, by rw [hl], by rw [hl]; omega, h2, fun i hi => ?_⟩
    rw [hl] at hi
    obtain ⟨a, rfl, hsp, hc⟩ := h3 i (by omega)
    have hc' := hs.cell hc (by simp)
    have e : (xs.take n)[i]'(by omega) = xs[i] := List.getElem_take
    by_cases h0 : c = 0
    · omega
    · rw [if_neg h0]
      refine ⟨a.add (0 * 1), rfl, ?_, ?_⟩
      · rw [addr_add' hsp]
      · rw [addr_add' hsp, e]; simpa using hc'
theorem NumsR.same {A C : World} {v : Value} {l : List Int} (h : NumsR A v l) (hs : Same [] A C) : NumsR C v l := by
  refine ⟨h.1.same hs, ?_⟩
  rcases h.2 with h0 | ⟨a, c, rfl, h2⟩
  · exact .inl h0
  · exact .inr ⟨a, c, rfl, fun j u hj => hs.cell (h2 j u hj) (by simp)⟩
section
variable {P : Program} {w : World}
theorem wpList_append_nums {ops : Array Oper} {rest : List Oper} {o : Oper} {a : Act} {Q : Exit → Act → World → Prop} (hgd : o.guard = none) (s x : Operand) (t : TypeId)
    (ho : o.op = .call { callee := .builtin .append, args := #[s, x], argTypes := #[t, t] })
    (base : Nat) (e : TypeId) (i : TypeInfo) (z : Value) (bytes : Nat) (ht : P.underlying t = some (.slice e)) (hi : P.info? e = some i) (hz : i.zero = some z)
    (hsize : i.size = 1) (hby : i.bytes = bytes) (hzs : z.cells.size = 1)
    (v : Value) (n : Nat) (xs : List Value) (hs : a.eval s = v) (hown : w.ownsRow base e 1 v n xs)
    (sv : Value) (ys : List Int) (hx : a.eval x = sv) (hr : NumsR w sv ys)
    (h63 : n + ys.length ≤ maxLen) (hbytes : (n + ys.length) * bytes ≤ 140737488355328) (hbase : base ≤ w.heap.size)
    (h : ∀ v' w', w'.ownsRow base e 1 v' (n + ys.length) (xs ++ il ys) → w.grownBy w' v.ownBlock → wpList P ops Q rest (a.put o.dst v') w') :
    wpList P ops Q (o :: rest) a w := by
  have key : ∃ v' w', (Builtin.append_ #[t, t] o.type #[v, sv]).run P w = .ok v' w' ∧ w'.ownsRow base e 1 v' (n + ys.length) (xs ++ il ys) ∧ w.grownBy w' v.ownBlock := by
    rcases hr.2 with rfl | ⟨a, c, rfl, hc⟩
    · obtain ⟨ad, c, h1, _⟩ := hr.1
      have hl : ys.length = 0 := by injection h1 with h2 h3 h4; exact h3.symm
      have hy : ys = [] := List.eq_nil_of_length_eq_zero hl
      subst hy
      refine ⟨v, w, run_append_owned_none (P := P) (w := w) base t o.type e i 1 ht hi v n xs hown, by simpa [il] using hown, ⟨rfl, rfl, rfl, Nat.le_refl _, fun _ _ _ => rfl⟩⟩
    · obtain ⟨v', w', hrun, h2, h3, _, h5⟩ := run_append_own_at (P := P) w base t o.type e i z 1 bytes ht hi hz hsize hby hzs (by decide) v n xs hown a ys.length c (il ys) (by rw [il_length, Nat.mul_one]) hc (one_il ys) h63 hbytes hbase
      exact ⟨v', w', hrun, h2, h3⟩
  obtain ⟨v', w', hrun, h2, h3⟩ := key
  refine wpList_plain hgd fun K hK => ?_
  unfold Oper.wp execOp
  simp only [ho, resolve, invoke, builtin, Sem.run_bind, Sem.run_pure, Result.andThen_ok, List.map_toArray, List.map_cons, List.map_nil, hs, hx, hrun]
  exact hK _ _ (h v' w' h2 h3)
end
end Go.Proofs.YtahjpjhkbohpnaaDoor
