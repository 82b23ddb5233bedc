/- What the walk of the law BitsReads stands on. No condition. -/
import Derived.Test.YtlaafjdlmocfnaaBitsWrites
import Derived.Test.YtlaafjdlmocfnaaBitsPlain
namespace Go.Proofs.Ytlaafjdlmocfnaa
open Go.RowKit
set_option linter.unusedSimpArgs false
set_option linter.unusedVariables false

theorem bitsReads_long (s : ByteArray) (v : Value) (w : World) (hs : 100 < s.size) (hm : s.size ≤ maxLen) :
    Calls Try.prog 4 #[.string s, v] w (AwakePost w) := by
  go_enter Try.func4, Try.ntmps4
  go_wp2_with (go_at_call 10; refine (awake_any _).mono ?_; rintro e w' ⟨rfl, hs⟩; have HS := Lib.hid hs; clear hs)
  go_ret
  exact ⟨rfl, HS.out⟩

theorem bitsReads_many (s : ByteArray) (v : Value) (ops : List OpD) (w : World) (hs : s.size ≤ 100) (h : OpsAt w v ops) (hf : fewB ops = false) :
    Calls Try.prog 4 #[.string s, v] w (AwakePost w) := by
  have H := Lib.hid h
  clear h
  go_enter Try.func4, Try.ntmps4
  go_wp2_with (first | (go_at_call 9; refine (few_any _ _ _ H.out).mono ?_; rintro e w' ⟨rfl, rfl⟩) | (go_at_call 10; refine (awake_any _).mono ?_; rintro e w' ⟨rfl, hs⟩; have HS := Lib.hid hs; clear hs))
  go_ret
  exact ⟨rfl, HS.out⟩

structure RInv (w W : World) (b p : Nat) (e : Int) (s : ByteArray) (v : Value) : Prop where
  rd : IsIn W b p e s
  own : Reads W 1 v (8 * s.size) (bools (ofStr s))
  fresh : ∀ k, v.ownBlock = some k → w.heap.size < k ∧ k < W.heap.size
  same : Same [] w W
  hb : b = w.heap.size
  hp : p ≤ 8 * s.size

theorem RInv.read {w W W1 : World} {b p p' : Nat} {e e' : Int} {s : ByteArray} {v : Value} (h : RInv w W b p e s v) (h1 : IsIn W1 b p' e' s) (h2 : Same [b] W W1) (hp : p' ≤ 8 * s.size) : RInv w W1 b p' e' s v :=
  ⟨h1, h.own.same h2 (fun k hk => by have := (h.fresh k hk).1; have := h.hb; simp; omega), fun k hk => ⟨(h.fresh k hk).1, Nat.lt_of_lt_of_le (h.fresh k hk).2 h2.size⟩,
    h.same.trans h2 (fun x hx hlt => by have := h.hb; simp at hx; omega), h.hb, hp⟩
theorem RInv.quiet {w W W1 : World} {b p : Nat} {e : Int} {s : ByteArray} {v : Value} (h : RInv w W b p e s v) (h2 : Same [] W W1) : RInv w W1 b p e s v :=
  ⟨h2.heap h.rd (by simp), h.own.same h2 (fun k hk => by simp), fun k hk => ⟨(h.fresh k hk).1, Nat.lt_of_lt_of_le (h.fresh k hk).2 h2.size⟩, h.same.trans_nil h2, h.hb, h.hp⟩


theorem text_case (b p : Nat) (e : Int) (s : ByteArray) (N : Int) (hs : s.size ≤ 100) (hp : p ≤ 8 * s.size) :
    ∃ (p' : Nat) (e' : Int) (t' : ByteArray), (∀ w, IsIn w b p e s → Calls Try.prog 19 #[.pointer (some ⟨b, 0, none⟩), .int .i64 N] w (RTextPost w b p' e' s t')) ∧ p' ≤ 8 * s.size ∧
      ((e ≠ 0 ∧ p' = p ∧ e' = e ∧ t' = ByteArray.empty) ∨ (e = 0 ∧ N < 0 ∧ p' = p ∧ e' = 1 ∧ t' = ByteArray.empty) ∨ (e = 0 ∧ 0 ≤ N ∧ N ≤ 1000 ∧ (8 * s.size : Int) - p < 8 * N ∧ p' = p ∧ e' = 10 ∧ t' = ByteArray.empty) ∨
       (e = 0 ∧ 1000 < N ∧ p' = p ∧ e' = 10 ∧ t' = ByteArray.empty) ∨ (∃ m : Nat, e = 0 ∧ N = m ∧ p + 8 * m ≤ 8 * s.size ∧ p' = p + 8 * m ∧ e' = 0 ∧ t' = strOf (pack (piece s p (8 * m))))) := by
  by_cases he : e = 0
  · subst he
    by_cases h0 : N < 0
    · exact ⟨_, _, _, fun w h => rtext_arg b p s N w h h0, hp, .inr (.inl ⟨rfl, h0, rfl, rfl, rfl⟩)⟩
    · by_cases h1 : (8 * s.size : Int) - p < 8 * N
      · by_cases h2 : N ≤ 1000
        · exact ⟨_, _, _, fun w h => rtext_short b p s N w h (by omega) hp (by omega) (by omega), hp, .inr (.inr (.inl ⟨rfl, by omega, h2, h1, rfl, rfl, rfl⟩))⟩
        · exact ⟨_, _, _, fun w h => rtext_short b p s N w h (by omega) hp (by omega) (by omega), hp, .inr (.inr (.inr (.inl ⟨rfl, by omega, rfl, rfl, rfl⟩)))⟩
      · obtain ⟨m, rfl⟩ : ∃ m : Nat, N = m := ⟨N.toNat, by omega⟩
        have hm : p + 8 * m ≤ 8 * s.size := by omega
        exact ⟨_, _, _, fun w h => rtext_ok b p m s w h (by omega) hm, hm, .inr (.inr (.inr (.inr ⟨m, rfl, rfl, hm, rfl, rfl, by rw [pack_piece s p m hm]⟩)))⟩
  · exact ⟨_, _, _, fun w h => rtext_err b p e s N w h he, hp, .inl ⟨he, rfl, rfl, rfl⟩⟩

theorem get_case (b p : Nat) (e : Int) (s : ByteArray) (N : Int) (hs : s.size ≤ 100) (hp : p ≤ 8 * s.size) :
    ∃ (p' : Nat) (e' : Int) (x : Nat), (∀ w, IsIn w b p e s → Calls Try.prog 20 #[.pointer (some ⟨b, 0, none⟩), .int .i64 N] w (GetPost w b p' e' s x)) ∧ p' ≤ 8 * s.size ∧
      ((e ≠ 0 ∧ p' = p ∧ e' = e ∧ x = 0) ∨ (e = 0 ∧ N < 0 ∧ p' = p ∧ e' = 1 ∧ x = 0) ∨ (e = 0 ∧ 64 < N ∧ p' = p ∧ e' = 1 ∧ x = 0) ∨ (e = 0 ∧ 0 ≤ N ∧ N ≤ 64 ∧ (8 * s.size : Int) - p < N ∧ p' = p ∧ e' = 10 ∧ x = 0) ∨
       (∃ m : Nat, e = 0 ∧ N = m ∧ m ≤ 64 ∧ p + m ≤ 8 * s.size ∧ p' = p + m ∧ e' = 0 ∧ x = numL (piece s p m))) := by
  by_cases he : e = 0
  · subst he
    by_cases h0 : N < 0
    · exact ⟨_, _, _, fun w h => get_arg b p s N w h (.inl h0), hp, .inr (.inl ⟨rfl, h0, rfl, rfl, rfl⟩)⟩
    · by_cases h2 : 64 < N
      · exact ⟨_, _, _, fun w h => get_arg b p s N w h (.inr h2), hp, .inr (.inr (.inl ⟨rfl, h2, rfl, rfl, rfl⟩))⟩
      · by_cases h1 : (8 * s.size : Int) - p < N
        · exact ⟨_, _, _, fun w h => get_short b p s N w h (by omega) hp (by omega) (by omega) (by omega), hp, .inr (.inr (.inr (.inl ⟨rfl, by omega, by omega, h1, rfl, rfl, rfl⟩)))⟩
        · obtain ⟨m, rfl⟩ : ∃ m : Nat, N = m := ⟨N.toNat, by omega⟩
          have hm : p + m ≤ 8 * s.size := by omega
          exact ⟨_, _, _, fun w h => get_at b p m s m w h (by omega) rfl hm (by omega), hm, .inr (.inr (.inr (.inr ⟨m, rfl, rfl, by omega, hm, rfl, rfl, by rw [numL_piece s p m hm]⟩)))⟩
  · exact ⟨_, _, _, fun w h => get_err b p e s N w h he, hp, .inl ⟨he, rfl, rfl, rfl⟩⟩

theorem RInv.pieceR {w W : World} {b p g c : Nat} {e : Int} {s : ByteArray} (h : RInv w W b p e s (.slice (some ⟨g, 0, none⟩) (8 * s.size) c)) (n : Nat) (hn : p + n ≤ 8 * s.size) (c' : Nat) (hc : n ≤ c') :
    Reads W 1 (.slice (some ⟨g, p, none⟩) n c') (piece s p n).length (bools (piece s p n)) := by
  have h1 : Reads W 1 (.slice (some ⟨g, 0, none⟩) (8 * s.size) c) (ofStr s).length (bools (ofStr s)) := by rw [length_ofStr]; exact h.own
  rw [length_piece s p n hn]
  exact h1.piece p n c' (by rw [length_ofStr]; exact hn) hc
theorem reads0 (W : World) (g n : Nat) (l : List Bool) (hl : l.length = n) (hn : n = 0) : Reads W 1 (.slice (some ⟨g, 0, none⟩) n 0) l.length (bools l) := by
  subst hl
  have : l = [] := by cases l with | nil => rfl | cons a b => simp at hn
  subst this
  exact ⟨rfl, .inl ⟨_, 0, rfl, rfl, Nat.le_refl _, fun j u h => by simp [bools] at h⟩⟩

/-- The value that a slice expression makes of the row: a piece of it. -/
def PieceV (g p n : Nat) (v : Value) : Prop := (∃ c', n ≤ c' ∧ v = .slice (some ⟨g, p, none⟩) n c') ∨ (n = 0 ∧ v = .slice (some ⟨g, 0, none⟩) n 0)

theorem piece_reads {w wr W : World} {b p g c : Nat} {e : Int} {s : ByteArray} (h : RInv w wr b p e s (.slice (some ⟨g, 0, none⟩) (8 * s.size) c)) (hs : Same [] wr W) (n : Nat) (hn : p + n ≤ 8 * s.size) {v : Value} (hv : PieceV g p n v) :
    Reads W 1 v (piece s p n).length (bools (piece s p n)) ∧ ∀ k, v.ownBlock = some k → k < W.heap.size := by
  have hlt : g < W.heap.size := Nat.lt_of_lt_of_le (h.fresh g rfl).2 hs.size
  rcases hv with ⟨c', hc, rfl⟩ | ⟨h0, rfl⟩
  · exact ⟨(h.quiet hs).pieceR n hn c' hc, fun k hk => by cases hk; exact hlt⟩
  · exact ⟨reads0 W g n _ (length_piece s p n hn) h0, fun k hk => by cases hk; exact hlt⟩

theorem reads_sliced {W : World} {ua : Option Addr} {L uc p n : Nat} {ys : List Value} (h : Reads W 1 (.slice ua L uc) L ys) (hn : p + n ≤ L) :
    Reads W 1 (sliced ua p (p + n) uc 1) n ((ys.drop p).take n) ∧ (∀ k, (sliced ua p (p + n) uc 1).ownBlock = some k → (Value.slice ua L uc).ownBlock = some k) := by
  have hl := h.1
  rw [Nat.mul_one] at hl
  have hlen : ((ys.drop p).take n).length = n * 1 := by simp; omega
  rcases h.2 with ⟨a, c, h1, ha, hmc, hc⟩ | ⟨h1, h0⟩
  · cases h1
    by_cases hp : uc = p
    · have e : sliced (some a) p (p + n) uc 1 = .slice (some a) n 0 := by unfold sliced; rw [if_pos hp, hp, Nat.add_sub_cancel_left, Nat.sub_self]
      have hn0 : n = 0 := by omega
      rw [e]
      refine ⟨⟨hlen, .inl ⟨a, 0, rfl, ha, by omega, fun j u hj => ?_⟩⟩, fun k hk => hk⟩
      rw [hn0] at hj; simp at hj
    · have e : sliced (some a) p (p + n) uc 1 = .slice (some (a.add (p * 1))) n (uc - p) := by unfold sliced; rw [if_neg hp, Nat.add_sub_cancel_left]; rfl
      rw [e, Nat.mul_one]
      refine ⟨⟨hlen, .inl ⟨a.add p, uc - p, rfl, ?_, by omega, fun j u hj => ?_⟩⟩, fun k hk => ?_⟩
      · rw [addr_add' ha]
      · have hj2 : ys[p + j]? = some u := by
          have hjn : j < n := by have := (List.getElem?_eq_some_iff.1 hj).1; simp at this; omega
          rw [List.getElem?_take_of_lt hjn, List.getElem?_drop] at hj; exact hj
        have := hc (p + j) u hj2
        rw [addr_add' ha] at this
        rw [addr_add' (a := a.add p) (by rw [addr_add' ha]), addr_add' ha]
        simpa [Nat.add_assoc] using this
      · rw [addr_add' ha] at hk; exact hk
  · cases h1
    have e : sliced none p (p + n) 0 1 = .slice none 0 0 := by
      have hp : p = 0 := by omega
      have hn' : n = 0 := by omega
      subst hp hn'; rfl
    rw [e]
    exact ⟨⟨hlen, .inr ⟨rfl, by omega⟩⟩, fun k hk => hk⟩

theorem run_piece (ua : Option Addr) (L uc p n : Nat) (q : Int) (hq : q = p + n) (hc : p + n ≤ uc) (W : World) :
    (Instr.sliceAt 28 (.slice ua L uc) (some (.int .i64 (p : Int))) (some (.int .i64 q)) none).run Try.prog W = .ok (sliced ua p (p + n) uc 1) W := by
  have hs : (sizeOf (Try.prog.elem 28)).run Try.prog W = .ok 1 W := by kernel_rfl
  rw [run_sliceAt_slice _ _ _ _ _ _ (by kernel_rfl), run_slice_lh _ _ _ _ _ (by kernel_rfl) _ _ _ _ (by omega) (by omega) (by omega), hs]
  subst hq
  rw [show ((p : Int) + (n : Int)).toNat = p + n by omega, Int.toNat_natCast]
  rfl

theorem RInv.pieceV {w wr W2 : World} {b p uc : Nat} {ua : Option Addr} {e : Int} {s : ByteArray} (h : RInv w wr b p e s (.slice ua (8 * s.size) uc)) (hs : Same [] wr W2) (n : Nat) (hn : p + n ≤ 8 * s.size) :
    Reads W2 1 (sliced ua p (p + n) uc 1) (piece s p n).length (bools (piece s p n)) ∧ (∀ k, (sliced ua p (p + n) uc 1).ownBlock = some k → k < W2.heap.size) := by
  obtain ⟨h1, h2⟩ := reads_sliced (h.quiet hs).own hn
  rw [length_piece s p n hn]
  refine ⟨?_, fun k hk => ((h.quiet hs).fresh k (h2 k hk)).2⟩
  have e : bools (piece s p n) = ((bools (ofStr s)).drop p).take n := by simp [bools, piece, List.map_take, List.map_drop]
  rw [e]; exact h1

end Go.Proofs.Ytlaafjdlmocfnaa
