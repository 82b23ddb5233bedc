/- Where a packer stands amid its packets, in plain Lean (for PackerWhole). Condition: the sections are such as may be. -/
import Derived.Test.YtpnbhgmcfooppaaPq7
namespace Go.Proofs.Ytpnbhgmcfooppaa
open Go.RowKit
set_option linter.unusedSimpArgs false
set_option linter.unusedVariables false

/-- Amid the packets: at: how many bytes have been told; begun: how many sections have begun. -/
structure WMid (PK done : List (Bool × ByteArray)) (Lp : List ByteArray) (k : Nat) (t : ByteArray) (l : List ByteArray) (at_ begun : Nat) : Prop where
  pk : PK = done ++ packG k t l
  fuel : (t ++ catL l).size ≤ k
  good : ∀ x ∈ l, Good x
  bytes : ∃ taken, catL Lp = taken ++ (t ++ catL l) ∧ taken.size = at_
  beg : ∃ pre, Lp = pre ++ l ∧ pre.length = begun ∧ (catL pre).size = at_ + t.size
theorem WMid.start {Lp : List ByteArray} (hg : ∀ x ∈ Lp, Good x) : WMid (packG (catL Lp).size ⟨#[]⟩ Lp) [] Lp (catL Lp).size ⟨#[]⟩ Lp 0 0 :=
  ⟨rfl, by rw [nil_append]; exact Nat.le_refl _, hg, ⟨⟨#[]⟩, by rw [nil_append, nil_append], rfl⟩, ⟨[], rfl, rfl, rfl⟩⟩
theorem WMid.done {PK done : List (Bool × ByteArray)} {Lp : List ByteArray} {k : Nat} {t : ByteArray} {l : List ByteArray} {a b : Nat} (h : WMid PK done Lp k t l a b) (hp : packG k t l = []) : a = (catL Lp).size := by
  obtain ⟨h1, rfl⟩ := pack_end hp h.fuel h.good
  obtain ⟨tk, e1, e2⟩ := h.bytes
  have := congrArg ByteArray.size e1
  rw [ByteArray.size_append, ByteArray.size_append, h1] at this
  have h3 : (catL ([] : List ByteArray)).size = 0 := rfl
  omega
theorem WMid.next {PK done : List (Bool × ByteArray)} {Lp : List ByteArray} {k : Nat} {t : ByteArray} {l : List ByteArray} {a b : Nat} {p : Bool × ByteArray} {rest : List (Bool × ByteArray)} (h : WMid PK done Lp k t l a b) (hp : packG k t l = p :: rest) :
    ∃ k' t' l' body kk c, WStep t l p t' l' body kk c ∧ WMid PK (done ++ [p]) Lp k' t' l' (a + kk) (b + c) ∧ a + kk ≤ (catL Lp).size ∧ b + c ≤ Lp.length ∧ kk = min body.size ((catL Lp).size - a) ∧ a < (catL Lp).size ∧
      body.extract 0 kk = (catL Lp).extract a (a + kk) ∧ (∀ j, kk ≤ j → j < body.size → byteOf body j = 255) ∧
      (∀ j, j < c → (catL (Lp.take (b + j))).size < a + kk) ∧ (b + c < Lp.length → a + kk ≤ (catL (Lp.take (b + c))).size) ∧ (b < Lp.length → (catL (Lp.take b)).size = a + t.size) := by
  have hpos : ∀ x ∈ l, 0 < x.size := fun x hx => by have := (h.good x hx).size; omega
  obtain ⟨tk, e1, e2⟩ := h.bytes
  obtain ⟨pre, f1, f2, f3⟩ := h.beg
  have hfu := h.fuel
  have h0 : ¬ (t ++ catL l).size = 0 := fun e => by rw [pack_nil k e] at hp; cases hp
  obtain ⟨k', rfl⟩ : ∃ k', k = k' + 1 := ⟨k - 1, by omega⟩
  have hpk := hp
  rw [pack_next hpos h0] at hpk
  obtain ⟨n1, n2, n3⟩ := next_size t l h0 hpos
  obtain ⟨body, kk, c, ws⟩ := whole_step hpos h0
  simp only [List.cons.injEq] at hpk
  obtain ⟨hp1, hp2⟩ := hpk
  rw [hp1] at ws
  have hsz : (t ++ catL l).size = t.size + (catL l).size := ByteArray.size_append
  have hall : (catL Lp).size = a + (t ++ catL l).size := by rw [e1, ByteArray.size_append, e2]
  have hkk : kk ≤ (t ++ catL l).size := by rw [ws.kmin]; omega
  have hsplit : catL l = catL (l.take c) ++ catL (l.drop c) := by rw [← catL_append, List.take_append_drop]
  have hss := congrArg ByteArray.size hsplit
  rw [ByteArray.size_append] at hss
  have hls := congrArg ByteArray.size ws.left
  rw [ByteArray.size_append, ByteArray.size_extract, ws.drop] at hls
  have htk : ∀ j, (Lp.take (b + j)) = pre ++ l.take j := fun j => by rw [f1, ← f2, List.take_length_add_append]
  have htks : ∀ j, (catL (Lp.take (b + j))).size = a + t.size + (catL (l.take j)).size := fun j => by rw [htk, catL_append, ByteArray.size_append, f3]
  have hlen : Lp.length = b + l.length := by rw [f1, List.length_append, f2]
  have hc1 := ws.c1
  refine ⟨k', (nextG t l).2.1, (nextG t l).2.2, body, kk, c, ws, ⟨?_, by omega, fun x hx => h.good x (n3 x hx), ⟨tk ++ (t ++ catL l).extract 0 kk, ?_, ?_⟩, ⟨pre ++ l.take c, ?_, ?_, ?_⟩⟩, by omega, by omega, by rw [ws.kmin, hall]; omega, by omega, ?_, ?_, fun j hj => ?_, fun hc => ?_, fun _ => ?_⟩
  · rw [h.pk, hp, hp2]; simp
  · rw [e1, ws.left, ByteArray.append_assoc, ByteArray.extract_append_extract, Nat.min_eq_left (Nat.zero_le _), Nat.max_eq_right hkk, extract_whole]
  · rw [ByteArray.size_append, e2, ByteArray.size_extract]; omega
  · rw [ws.drop, List.append_assoc, List.take_append_drop]; exact f1
  · rw [List.length_append, f2, List.length_take]; omega
  · rw [catL_append, ByteArray.size_append, f3]; omega
  · have hz1 : ((t ++ catL l).extract 0 kk).size = kk := by rw [ByteArray.size_extract]; omega
    have hb : body.extract 0 kk = (t ++ catL l).extract 0 kk := by
      rw [ws.text, extract_left _ _ _ (by omega)]
      have := extract_whole ((t ++ catL l).extract 0 kk)
      rw [hz1] at this; exact this
    rw [hb, e1]
    generalize t ++ catL l = R
    rw [ByteArray.extract_append, e2, Nat.sub_self, show a + kk - a = kk by omega, show tk.extract a (a + kk) = ⟨#[]⟩ from ByteArray.extract_eq_empty_iff.2 (by omega)]
    exact (nil_append _).symm
  · intro j hj hjb
    have hz1 : ((t ++ catL l).extract 0 kk).size = kk := by rw [ByteArray.size_extract]; omega
    rw [ws.text, byteOf_right _ _ _ (by omega), hz1]
    exact byteOf_stuffs _ _ (by omega)
  · rw [htks]; have := ws.before j hj; omega
  · rw [htks]; have := ws.behind (by omega); omega
  · have := htks 0
    rw [Nat.add_zero] at this
    rw [this]; show a + t.size + 0 = _; omega

end Go.Proofs.Ytpnbhgmcfooppaa
