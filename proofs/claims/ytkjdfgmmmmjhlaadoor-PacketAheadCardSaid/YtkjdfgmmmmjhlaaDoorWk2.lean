/- What a world holds while a law of layer 14 walks on, and Decode behind Encode in the program. Condition: the table 'widths' lies. -/
import Derived.Test.YtkjdfgmmmmjhlaaDoorWk1
import Derived.Test.YtkjdfgmmmmjhlaaDoorPl1
namespace Go.Proofs.YtkjdfgmmmmjhlaaDoor
open Go.RowKit
set_option linter.unusedSimpArgs false
set_option linter.unusedVariables false

/-- W has turned nothing of w, the table lies, and the blocks of L hold what L says. -/
def Hold (w W : World) (L : List (Nat × Obj)) : Prop := Same [] w W ∧ Tab W ∧ ∀ x, x ∈ L → W.heap[x.1]? = some x.2
theorem Hold.start {w : World} (ht : Tab w) : Hold w w [] := ⟨Same.refl _ _, ht, fun x hx => by simp at hx⟩
theorem Hold.step {w W W' : World} {L : List (Nat × Obj)} (h : Hold w W L) (s : Same [] W W') : Hold w W' L := ⟨h.1.trans_nil s, h.2.1.same s (by simp), fun x hx => s.heap (h.2.2 x hx) (by simp)⟩
theorem Hold.alloc {w W : World} {L : List (Nat × Obj)} (h : Hold w W L) (o : Obj) : Hold w (W.alloc o) ((W.heap.size, o) :: L) := by
  have h1 := h.step ((Same.refl [] W).alloc o)
  refine ⟨h1.1, h1.2.1, fun x hx => ?_⟩
  rcases List.mem_cons.1 hx with rfl | hx
  · exact World.alloc_heap_new W o
  · exact h1.2.2 x hx
theorem Hold.sm {w W : World} {L : List (Nat × Obj)} (h : Hold w W L) : Same [] w W := h.1
theorem Hold.tab {w W : World} {L : List (Nat × Obj)} (h : Hold w W L) : Tab W := h.2.1
theorem Hold.at {w W : World} {L : List (Nat × Obj)} (h : Hold w W L) (x : Nat × Obj) (hx : x ∈ L) : W.heap[x.1]? = some x.2 := h.2.2 x hx
/-- A packet as a block. -/
def pktO (p : Int) (t : Bool) (c : Int) (b : Bool) (x : ByteArray) : Obj := .cells #[.int .i64 p, .bool t, .int .i64 c, .bool b, .string x] 23
def rpktO (p : Int) (t : Bool) (c : Int) (b : Bool) (x : ByteArray) : Obj := .cells #[.int .i64 p, .bool t, .int .i64 c, .bool b, .string x] 27
def PktAt (W : World) (g : Nat) (p : Int) (t : Bool) (c : Int) (b : Bool) (x : ByteArray) : Prop := W.cell? ⟨g, 0, none⟩ = some (.int .i64 p) ∧ W.cell? ⟨g, 1, none⟩ = some (.bool t) ∧ W.cell? ⟨g, 2, none⟩ = some (.int .i64 c) ∧ W.cell? ⟨g, 3, none⟩ = some (.bool b) ∧ W.cell? ⟨g, 4, none⟩ = some (.string x)
theorem Hold.pkt {w W : World} {L : List (Nat × Obj)} (h : Hold w W L) (g : Nat) {p : Int} {t : Bool} {c : Int} {b : Bool} {x : ByteArray} (hx : (g, pktO p t c b x) ∈ L) : PktAt W g p t c b x := pkt_cells (h.at _ hx)

/-- The body of a packet, stored anew. -/
theorem Hold.body {w W : World} {L : List (Nat × Obj)} {g : Nat} {p : Int} {t : Bool} {c : Int} {b : Bool} {x : ByteArray} (h : Hold w W ((g, pktO p t c b x) :: L)) (hg : w.heap.size ≤ g) (hL : ∀ y, y ∈ L → y.1 < g) (y : ByteArray) :
    Hold w (W.setCell ⟨g, 4, none⟩ (.string y)) ((g, pktO p t c b y) :: L) := by
  have h0 : W.heap[g]? = some (pktO p t c b x) := h.at (g, pktO p t c b x) (by simp)
  have hne := h.tab.lt
  have hlt : 0 < g := by
    by_cases h9 : 0 < g
    · exact h9
    · have : g = 0 := by omega
      subst this
      have h1 := h.tab.2.1
      rw [cell_of h0] at h1
      simp at h1
  refine ⟨h.sm.setCell (fun h9 => absurd h9 (by simp; omega)) _, h.tab.same (S := [g]) ((Same.refl [g] W).setCell (by simp) _) (by simp; omega), fun z hz => ?_⟩
  rcases List.mem_cons.1 hz with rfl | hz
  · exact (set_same (i := 4) h0 (.string y)).trans rfl
  · rw [set_other _ (by have := hL z hz; omega)]
    exact h.at z (List.mem_cons_of_mem _ hz)

/-- Encode, and Decode behind it. -/
theorem enc_dec (p : Int) (t : Bool) (c : Int) (b : Bool) (x : ByteArray) (h : chkG p c x = 0) : ∃ U : ByteArray, U.size = 188 ∧
    (∀ W, Tab W → Calls Tryd.prog 12 #[.agg #[.int .i64 p, .bool t, .int .i64 c, .bool b, .string x]] W (fun e w' => Same [] W w' ∧ e = .returned (.tuple #[.string U, .int .i64 0]))) ∧
    (∀ W, Tab W → Calls Tryd.prog 20 #[.string U] W (fun e w' => Same [] W w' ∧ e = .returned (.tuple #[.agg #[.int .i64 p, .bool t, .int .i64 c, .bool b, .string x], .int .i64 0]))) := by
  obtain ⟨m, k, rfl, rfl, h1, h2, h3⟩ := chk_nat h
  obtain ⟨d1, d2⟩ := dec_enc m t k b x h1 h2 h3
  refine ⟨encG m t k b x, size_enc _ _ _ _ _ h3, fun W hT => encode_ok m t k b x W h1 h2 h3 hT, fun W hT => (decode_any _ W hT).mono fun e w' ⟨s, he⟩ => ⟨s, ?_⟩⟩
  rw [he, d1, if_pos rfl, d2]

theorem dec_shape0 (s : ByteArray) (h : decE s = 0) : ∃ (p : Int) (t : Bool) (c : Int) (b : Bool) (x : ByteArray), decV s = .agg #[.int .i64 p, .bool t, .int .i64 c, .bool b, .string x] ∧ chkG p c x = 0 :=
  ⟨_, _, _, _, _, rfl, dec_chk s h⟩

end Go.Proofs.YtkjdfgmmmmjhlaaDoor
