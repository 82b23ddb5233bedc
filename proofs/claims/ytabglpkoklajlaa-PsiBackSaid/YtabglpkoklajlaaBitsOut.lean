/- The writer of bits: what add leaves: one bit more, behind the others. Condition: fewer than 2^40 bits. -/
import Derived.Test.YtabglpkoklajlaaChecked
import Derived.Test.YtabglpkoklajlaaBase
import Derived.Test.YtabglpkoklajlaaPack
import Derived.BigQuiet
import Derived.Deep.QuietTactic
import Derived.BigRegion
import Derived.Deep.DeepFit
import Derived.Deep.DeepMust
import Derived.Maps.AppendAt
namespace Go.Proofs.Ytabglpkoklajlaa
open Go.RowKit
set_option linter.unusedSimpArgs false
set_option linter.unusedVariables false

/-- Block b is a writer that holds the bits l; its bytes lie in block r. -/
def IsOut (w : World) (b : Nat) (r : Option Nat) (l : List Bool) : Prop :=
  ∃ v, w.heap[b]? = some (.cells #[v, .int .i64 l.length] 75 (0, 0)) ∧ w.ownsRow 0 5 1 v (pack l).length (u8s (pack l)) ∧ v.ownBlock = r ∧ r ≠ some b

def OutStep (w : World) (b : Nat) (r : Option Nat) (l : List Bool) (w' : World) : Prop :=
  ∃ r', IsOut w' b r' l ∧ Same (b :: r.toList) w w' ∧ (∀ k, r' = some k → r = some k ∨ w.heap.size ≤ k)

theorem OutStep.trans {w w1 w2 : World} {b : Nat} {r r1 : Option Nat} {l : List Bool} (hr : ∀ k, r1 = some k → r = some k ∨ w.heap.size ≤ k) (hs : Same (b :: r.toList) w w1) (h : OutStep w1 b r1 l w2) : OutStep w b r l w2 := by
  obtain ⟨r', ho, hs', hr'⟩ := h
  refine ⟨r', ho, hs.trans hs' (fun x hx hlt => ?_), fun k hk => ?_⟩
  · simp only [List.mem_cons, Option.mem_toList] at hx ⊢
    rcases hx with hx | hx
    · exact .inl hx
    · rcases hr x hx with h | h
      · exact .inr h
      · omega
  · rcases hr' k hk with h | h
    · exact hr k h
    · exact .inr (Nat.le_trans hs.size h)

theorem IsOut.same {A B : World} {b : Nat} {r : Option Nat} {l : List Bool} {S : List Nat} (h : IsOut A b r l) (hs : Same S A B) (hb : b ∉ S) (hr : ∀ k, r = some k → k ∉ S) : IsOut B b r l := by
  obtain ⟨v, h1, h2, rfl, h4⟩ := h
  refine ⟨v, hs.heap h1 hb, ⟨h2.1, ?_⟩, rfl, h4⟩
  rcases h2.2 with h | ⟨g, cap, cur, rfl, h5, h6, h7⟩
  · exact .inl h
  · exact .inr ⟨g, cap, cur, rfl, h5, hs.heap h6 (hr g rfl), h7⟩
theorem IsOut.lt {A : World} {b : Nat} {r : Option Nat} {l : List Bool} (h : IsOut A b r l) : b < A.heap.size ∧ ∀ k, r = some k → k < A.heap.size := by
  obtain ⟨v, h1, h2, rfl, h4⟩ := h
  exact ⟨heap_lt h1, fun k hk => (h2.lt k hk).2⟩

def AddPost (w : World) (b : Nat) (r : Option Nat) (l : List Bool) (e : Ending) (w' : World) : Prop := e = .returned (.tuple #[]) ∧ OutStep w b r l w'

theorem Try.info5 : (Try.prog.info? 5).map (fun i => (i.zero, i.size, i.bytes)) = some (some (.int .u8 0), 1, 1) := by kernel_rfl

theorem nat_or_bit (y j : Nat) (x : Bool) (hy : y < 256) (hj : j < 8) (hl : y % 2 ^ (8 - j) = 0) (X : Int) (hX : X = x.toNat) :
    bits .or .u8 (y : Int) (X * 2 ^ (7 - j) % 256) = ((y + x.toNat * 2 ^ (7 - j) : Nat) : Int) := by rw [hX]; exact or_bit y j x hy hj hl

theorem add_old_post (b g cap n : Nat) (cur : Array Value) (x : Bool) (w : World) (l : List Bool) (hm : l.length % 8 ≠ 0) (hn : l.length / 8 = n)
    (hb : w.heap[b]? = some (.cells #[.slice (some ⟨g, 0, none⟩) (n + 1) cap, .int .i64 l.length] 75 (0, 0)))
    (hg : w.heap[g]? = some (.cells cur 5 (0, 0))) (hc : n + 1 ≤ cap) (hcm : cap ≤ maxLen) (hcs : cur.size = cap * 1) (ht : cur.toList.take ((n + 1) * 1) = u8s (pack l)) (hbg : g ≠ b) :
    OutStep w b (some g) (l ++ [x]) (((w.setCell ⟨g, n, none⟩ (.int .u8 ((byteAt l n + x.toNat * 2 ^ (7 - l.length % 8) : Nat) : Int))).setCell ⟨b, 1, none⟩ (.int .i64 ((l.length : Int) + 1))).drew) := by
  have hlen : (pack (l ++ [x])).length = n + 1 := by rw [length_pack]; simp; omega
  refine ⟨some g, ⟨.slice (some ⟨g, 0, none⟩) (n + 1) cap, ?_, ?_, rfl, by simp [hbg]⟩, ?_, fun k hk => .inl hk⟩
  · rw [drew_heap, set_same (c := #[.slice (some ⟨g, 0, none⟩) (n + 1) cap, .int .i64 l.length]) (by rw [set_other _ hbg.symm]; exact hb)]
    simp
  · refine ⟨by simp [u8s], .inr ⟨g, cap, cur.setIfInBounds n (.int .u8 ((byteAt l n + x.toNat * 2 ^ (7 - l.length % 8) : Nat) : Int)), by rw [hlen], Nat.zero_le _, ?_, by omega, hcm, by simp [hcs], ?_⟩⟩
    · rw [drew_heap, set_other _ hbg, set_same hg]
    · rw [hlen, Array.toList_setIfInBounds, pack_snoc_old l x hm, hn]
      have := congrArg (fun z => z.set n (Value.int .u8 ((byteAt l n + x.toNat * 2 ^ (7 - l.length % 8) : Nat) : Int))) ht
      simp only [List.take_set] at this ⊢
      rw [this]
      simp only [u8s, List.map_set]
  · exact (((Same.refl _ w).setCell (by simp) _).setCell (by simp) _).drew

set_option maxHeartbeats 1000000 in
theorem add_old (b : Nat) (r : Option Nat) (l : List Bool) (x : Bool) (w : World) (hO : IsOut w b r l) (hl : l.length < 1099511627776) (hm : l.length % 8 ≠ 0) (X : Int) (hX : X = x.toNat) :
    Calls Try.prog 44 #[.pointer (some ⟨b, 0, none⟩), .int .u8 X] w (AddPost w b r (l ++ [x])) := by
  obtain ⟨v, hb, ⟨hx1, hx2⟩, rfl, hrb⟩ := hO
  obtain ⟨n, hn⟩ : ∃ n, l.length / 8 = n := ⟨_, rfl⟩
  have hpl : (pack l).length = n + 1 := by rw [length_pack]; omega
  rcases hx2 with ⟨_, h0⟩ | ⟨g, cap, cur, rfl, _, hg, hnc, hcm, hcs, ht⟩
  · omega
  rw [hpl] at hb hnc ht
  have hbg : g ≠ b := by simpa [Value.ownBlock] using hrb
  have hget : cur[n]? = some (.int .u8 (byteAt l n : Nat)) := by
    have h1 := congrArg (fun z => z[n]?) ht
    simp only [List.getElem?_take] at h1
    rw [if_pos (by omega)] at h1
    rw [← Array.getElem?_toList, h1]
    simp [u8s, List.getElem?_map, pack_get l n (by omega)]
  have h0 : w.cell? ⟨b, 0, none⟩ = some (.slice (some ⟨g, 0, none⟩) (n + 1) cap) := by rw [cell_of hb]; rfl
  have h1 : w.cell? ⟨b, 1, none⟩ = some (.int .i64 l.length) := by rw [cell_of hb]; rfl
  have hf1 : w.frozen? ⟨b, 1, none⟩ = false := free_of hb 1
  have h2 : w.cell? ⟨g, n, none⟩ = some (.int .u8 (byteAt l n : Nat)) := by rw [cell_of hg]; exact hget
  have hf2 : w.frozen? ⟨g, n, none⟩ = false := free_of hg n
  have P := add_old_post b g cap n cur x w l hm hn hb hg hnc hcm hcs ht hbg
  have E := nat_or_bit (byteAt l n) (l.length % 8) x (byteAt_lt _ _) (by omega) (by rw [← hn]; exact byteAt_low l) X hX
  have hm' : ((l.length : Int) % 8 == 0) = false := by rw [beq_eq_false_iff_ne]; omega
  have hX0 : 0 ≤ X := by omega
  have hX1 : X ≤ 1 := by have : x.toNat ≤ 1 := by cases x <;> simp
                         omega
  have HP := Lib.hid P
  have HE := Lib.hid E
  have hk : l.length < 1099511627776 := hl
  have hn1 : n < 1099511627776 := by omega
  have hbg' : b ≠ g := hbg.symm
  unfold maxLen at hcm
  clear P E hX hm hn hpl hrb hx1 hb hg hcs ht hget hl
  generalize hKK : l.length = k at *
  go_enter Try.func44, Try.ntmps44
  go_wp2
  go_region
  go_wp2
  go_end0
  refine ⟨rfl, ?_⟩
  rw [HE.out]
  exact HP.out

theorem grow_succ {w : World} {base e : Nat} {v : Value} {n : Nat} {xs : List Value} (h : w.ownsRow base e 1 v (n + 1) xs) :
    ∃ g cap cur, v = .slice (some ⟨g, 0, none⟩) (n + 1) cap ∧ w.heap[g]? = some (.cells cur e (0, 0)) ∧ n + 1 ≤ cap ∧ cap ≤ maxLen ∧ cur.size = cap ∧ cur.toList.take (n + 1) = xs := by
  rcases h.2 with ⟨_, h0⟩ | ⟨g, cap, cur, rfl, _, hg, hnc, hcm, hcs, ht⟩
  · omega
  · exact ⟨g, cap, cur, rfl, hg, hnc, hcm, by omega, by simpa using ht⟩

theorem add_new_post (b : Nat) (v : Value) (g cap n : Nat) (cur : Array Value) (x : Bool) (w w1 : World) (l : List Bool) (hm : l.length % 8 = 0) (hn : (pack l).length = n)
    (hb : w.heap[b]? = some (.cells #[v, .int .i64 l.length] 75 (0, 0))) (hvb : v.ownBlock ≠ some b)
    (hgrow : (w.alloc (.cells #[.int .u8 0] 5)).grownBy w1 v.ownBlock)
    (hgb : v.ownBlock = some g ∨ (w.alloc (.cells #[.int .u8 0] 5)).heap.size ≤ g)
    (hg : w1.heap[g]? = some (.cells cur 5 (0, 0))) (hc : n + 1 ≤ cap) (hcm : cap ≤ maxLen) (hcs : cur.size = cap) (ht : cur.toList.take (n + 1) = u8s (pack l) ++ [.int .u8 0]) :
    OutStep w b v.ownBlock (l ++ [x]) ((((w1.setCell ⟨b, 0, none⟩ (.slice (some ⟨g, 0, none⟩) (n + 1) cap)).setCell ⟨g, n, none⟩ (.int .u8 (((x.toNat * 128 : Nat) : Int)))).setCell ⟨b, 1, none⟩ (.int .i64 ((l.length : Int) + 1))).drew) := by
  have hlt := heap_lt hb
  have hbg : b ≠ g := by
    rcases hgb with h | h
    · intro e; subst e; exact hvb h
    · simp at h; omega
  have hb1 : w1.heap[b]? = some (.cells #[v, .int .i64 l.length] 75 (0, 0)) := (hgrow.block b (by simp; omega) (fun e => hvb e.symm)).trans ((Below.heap_alloc _ _ _ hlt).trans hb)
  have hlen : (pack (l ++ [x])).length = n + 1 := by rw [pack_snoc_new l x hm]; simp [hn]
  refine ⟨some g, ⟨.slice (some ⟨g, 0, none⟩) (n + 1) cap, ?_, ?_, rfl, by simp [hbg.symm]⟩, ?_, fun k hk => ?_⟩
  · rw [drew_heap, set_same (c := #[.slice (some ⟨g, 0, none⟩) (n + 1) cap, .int .i64 l.length]) (by rw [set_other _ hbg, set_same hb1]; rfl)]
    simp
  · refine ⟨by simp [u8s], .inr ⟨g, cap, cur.setIfInBounds n (.int .u8 ((x.toNat * 128 : Nat) : Int)), by rw [hlen], Nat.zero_le _, ?_, by omega, hcm, by simp [hcs], ?_⟩⟩
    · rw [drew_heap, set_other _ hbg.symm, set_same (by rw [set_other _ hbg.symm]; exact hg)]
    · rw [hlen, Array.toList_setIfInBounds, pack_snoc_new l x hm]
      simp only [Nat.mul_one, List.take_set]
      rw [ht, ← hn]
      simp only [u8s, List.map_append, List.map_cons, List.map_nil]
      rw [List.set_append_right _ _ (by simp)]
      simp
  · refine ((((((Same.refl _ w).alloc _).grown hgrow ?_).setCell ?_ _).setCell ?_ _).setCell ?_ _).drew
    · intro k hk _; simp [hk]
    · simp
    · intro hlt'; rcases hgb with h | h
      · simp [h]
      · simp at h; simp at hlt'; omega
    · simp
  · cases hk
    rcases hgb with h | h
    · exact .inl h
    · simp at h; exact .inr (by omega)

set_option maxHeartbeats 1000000 in
theorem add_new (b : Nat) (r : Option Nat) (l : List Bool) (x : Bool) (w : World) (hO : IsOut w b r l) (hl : l.length < 1099511627776) (hm : l.length % 8 = 0) (X : Int) (hX : X = x.toNat) :
    Calls Try.prog 44 #[.pointer (some ⟨b, 0, none⟩), .int .u8 X] w (AddPost w b r (l ++ [x])) := by
  obtain ⟨v, hb, hown, rfl, hrb⟩ := hO
  obtain ⟨n, hn⟩ : ∃ n, (pack l).length = n := ⟨_, rfl⟩
  rw [hn] at hown
  have hn2 : n < 1099511627776 := by rw [← hn, length_pack]; omega
  have h0 : w.cell? ⟨b, 0, none⟩ = some v := by rw [cell_of hb]; rfl
  have h1 : w.cell? ⟨b, 1, none⟩ = some (.int .i64 l.length) := by rw [cell_of hb]; rfl
  have hf0 : w.frozen? ⟨b, 0, none⟩ = false := free_of hb 0
  have hbw : b < w.heap.size := heap_lt hb
  have hm' : ((l.length : Int) % 8 == 0) = true := by rw [beq_iff_eq]; omega
  have hX0 : 0 ≤ X := by omega
  have hX1 : X ≤ 1 := by have : x.toNat ≤ 1 := by cases x <;> simp
                         omega
  have HM := Lib.hid hm; have HN := Lib.hid hn; have HX := Lib.hid hX; have HB := Lib.hid hb; have HR := Lib.hid hrb
  have hk : l.length < 1099511627776 := hl
  clear hX hm hn hrb hb hl
  obtain ⟨i0, hi, hz0, hz1, hz2⟩ := info_parts Try.info5
  go_enter Try.func44, Try.ntmps44
  go_wp2_with (at_builtin; refine wpList_append_own_at _ rfl (.tmp 14) (.tmp 15) 47 rfl 0 5 i0 (.int .u8 0) 1 1 Try.underlying47 hi hz0 hz1 hz2 rfl (by decide) _ _ _ rfl (hown.alloc _) ⟨w.heap.size, 0, none⟩ 1 1 [.int .u8 0] rfl rfl ?c1 ?c2 ?c3 ?c4 ?c5 ?_)
  case c1 => exact cell_one_new _ _ _
  case c2 => intro u hu; simp at hu; subst hu; rfl
  case c3 => unfold maxLen; omega
  case c4 => omega
  case c5 => simp
  intro v' w1 hown' hgrow _ hat
  have hex := grow_succ hown'
  obtain ⟨g, cap, cur, hv', hg, hc, hcm, hcs, ht⟩ := hex
  have hgb : v.ownBlock = some g ∨ (w.alloc (.cells #[.int .u8 0] 5)).heap.size ≤ g := by
    rw [hv'] at hat
    rcases hat with h | h
    · exact .inl h.symm
    · exact .inr (by simp [Value.ownBlock] at h; simp; omega)
  have P := add_new_post b v g cap n cur x w w1 l HM.out HN.out HB.out HR.out hgrow hgb hg hc hcm hcs ht
  have HP := Lib.hid P
  have hbg : b ≠ g := by
    rcases hgb with h | h
    · intro e; subst e; exact HR.out h
    · simp at h; omega
  have hb1 : w1.heap[b]? = some (.cells #[v, .int .i64 l.length] 75 (0, 0)) := (hgrow.block b (by simp; omega) (fun e => HR.out e.symm)).trans ((Below.heap_alloc _ _ _ hbw).trans HB.out)
  have c0 : w1.cell? ⟨b, 0, none⟩ = some v := by rw [cell_of hb1]; rfl
  have c1 : w1.cell? ⟨b, 1, none⟩ = some (.int .i64 l.length) := by rw [cell_of hb1]; rfl
  have cf0 : w1.frozen? ⟨b, 0, none⟩ = false := free_of hb1 0
  have cf1 : w1.frozen? ⟨b, 1, none⟩ = false := free_of hb1 1
  have cg : w1.cell? ⟨g, n, none⟩ = some (.int .u8 0) := by
    rw [cell_of hg, ← Array.getElem?_toList]
    have h1 := congrArg (fun z => z[n]?) ht
    simp only [List.getElem?_take] at h1
    rw [if_pos (by omega)] at h1
    rw [h1, List.getElem?_append_right (by simp [u8s, HN.out])]
    simp [u8s, HN.out]
  have cfg : w1.frozen? ⟨g, n, none⟩ = false := free_of hg n
  have hgb' : g ≠ b := hbg.symm
  have hm0 : (l.length : Int) % 8 = 0 := by have := HM.out; omega
  have hE : bits .or .u8 0 (X * 128) = ((x.toNat * 128 : Nat) : Int) := by rw [HX.out]; cases x <;> rfl
  have HE := Lib.hid hE
  unfold maxLen at hcm
  rw [hv']
  clear P hE hown' hgrow hat hv' hgb hb1 hg ht hcs hown h0 h1 hf0 hi hz0 hz1 hz2
  go_wp2
  go_region
  go_wp2
  go_end0
  refine ⟨rfl, ?_⟩
  rw [HE.out]
  exact HP.out

theorem add_any (b : Nat) (r : Option Nat) (l : List Bool) (x : Bool) (w : World) (hO : IsOut w b r l) (hl : l.length < 1099511627776) (X : Int) (hX : X = x.toNat) :
    Calls Try.prog 44 #[.pointer (some ⟨b, 0, none⟩), .int .u8 X] w (AddPost w b r (l ++ [x])) := by
  by_cases hm : l.length % 8 = 0
  · exact add_new b r l x w hO hl hm X hX
  · exact add_old b r l x w hO hl hm X hX

end Go.Proofs.Ytabglpkoklajlaa
